/- Part 43 of my own framework and of the walks of functions: Tl, Ty, Ma, Pa, Pb, Pc, Mb, Pd, Pe, Mc, Pf, Pg, Md, Ph, Me, Pi, Mf, Pj, Pk, Pl, Mg, Pm, Pn, Po, Mh, Pp, Pq, Pr, Ps. -/
import Derived.Test.YtpgnahcljlclcaaGreatOwn42
import Derived.Test.YtpgnahcljlclcaaGreatProg
import Derived.KernelRfl
set_option linter.unusedVariables false
set_option linter.unusedSectionVars false
set_option linter.unusedSimpArgs false
namespace Go.Proofs
open Go Go.Abs
@[go_sem] theorem lay1:layOf Tryz.prog 1=some ⟨1,false,8,[.nilfn], .func⟩:=by kernel_rfl
@[go_sem] theorem ty1:tyA Tryz.prog 1=some ⟨⟨1,false,8,[.nilfn], .func⟩,[],none,none⟩:=by kernel_rfl
@[go_sem] theorem lay2:layOf Tryz.prog 2=some ⟨1,false,8,[.int .i64 0],(.int .i64)⟩:=by kernel_rfl
@[go_sem] theorem ty2:tyA Tryz.prog 2=some ⟨⟨1,false,8,[.int .i64 0],(.int .i64)⟩,[],none,none⟩:=by kernel_rfl
@[go_sem] theorem lay3:layOf Tryz.prog 3=some ⟨1,false,8,[.int .i64 0],(.int .i64)⟩:=by kernel_rfl
@[go_sem] theorem ty3:tyA Tryz.prog 3=some ⟨⟨1,false,8,[.int .i64 0],(.int .i64)⟩,[],none,none⟩:=by kernel_rfl
@[go_sem] theorem lay4:layOf Tryz.prog 4=some ⟨1,false,1,[.bool false], .bool⟩:=by kernel_rfl
@[go_sem] theorem ty4:tyA Tryz.prog 4=some ⟨⟨1,false,1,[.bool false], .bool⟩,[],none,none⟩:=by kernel_rfl
@[go_sem] theorem lay5:layOf Tryz.prog 5=some ⟨1,false,1,[.int .u8 0],(.int .u8)⟩:=by kernel_rfl
@[go_sem] theorem ty5:tyA Tryz.prog 5=some ⟨⟨1,false,1,[.int .u8 0],(.int .u8)⟩,[],none,none⟩:=by kernel_rfl
@[go_sem] theorem lay6:layOf Tryz.prog 6=some ⟨1,false,1,[.int .u8 0],(.int .u8)⟩:=by kernel_rfl
@[go_sem] theorem ty6:tyA Tryz.prog 6=some ⟨⟨1,false,1,[.int .u8 0],(.int .u8)⟩,[],none,none⟩:=by kernel_rfl
@[go_sem] theorem lay7:layOf Tryz.prog 7=some ⟨4,true,24,[.int .i64 0, .int .i64 0, .bool false, .int .u8 0], .struct⟩:=by kernel_rfl
@[go_sem] theorem ty7:tyA Tryz.prog 7=some ⟨⟨4,true,24,[.int .i64 0, .int .i64 0, .bool false, .int .u8 0], .struct⟩,[(0,some ⟨1,false,8,[.int .i64 0],(.int .i64)⟩),(1,some ⟨1,false,8,[.int .i64 0],(.int .i64)⟩),(2,some ⟨1,false,1,[.bool false], .bool⟩),(3,some ⟨1,false,1,[.int .u8 0],(.int .u8)⟩)],none,none⟩:=by kernel_rfl
@[go_sem] theorem eqt7:eqTy Tryz.prog 7 [(.int .i64),(.int .i64), .bool,(.int .u8)]=true:=by kernel_rfl
@[go_sem] theorem lay8:layOf Tryz.prog 8=some ⟨4,true,24,[.int .i64 0, .int .i64 0, .bool false, .int .u8 0], .struct⟩:=by kernel_rfl
@[go_sem] theorem ty8:tyA Tryz.prog 8=some ⟨⟨4,true,24,[.int .i64 0, .int .i64 0, .bool false, .int .u8 0], .struct⟩,[(0,some ⟨1,false,8,[.int .i64 0],(.int .i64)⟩),(1,some ⟨1,false,8,[.int .i64 0],(.int .i64)⟩),(2,some ⟨1,false,1,[.bool false], .bool⟩),(3,some ⟨1,false,1,[.int .u8 0],(.int .u8)⟩)],none,none⟩:=by kernel_rfl
@[go_sem] theorem eqt8:eqTy Tryz.prog 8 [(.int .i64),(.int .i64), .bool,(.int .u8)]=true:=by kernel_rfl
@[go_sem] theorem lay9:layOf Tryz.prog 9=some ⟨1,false,16,[.str ⟨#[]⟩], .str⟩:=by kernel_rfl
@[go_sem] theorem ty9:tyA Tryz.prog 9=some ⟨⟨1,false,16,[.str ⟨#[]⟩], .str⟩,[],none,none⟩:=by kernel_rfl
@[go_sem] theorem Xcd:layOf Tryz.prog 10=some ⟨1,false,16,[.str ⟨#[]⟩], .str⟩:=by kernel_rfl
@[go_sem] theorem ty10:tyA Tryz.prog 10=some ⟨⟨1,false,16,[.str ⟨#[]⟩], .str⟩,[],none,none⟩:=by kernel_rfl
@[go_sem] theorem Xev:layOf Tryz.prog 11=some ⟨1,false,16,[.str ⟨#[]⟩], .str⟩:=by kernel_rfl
@[go_sem] theorem ty11:tyA Tryz.prog 11=some ⟨⟨1,false,16,[.str ⟨#[]⟩], .str⟩,[],none,none⟩:=by kernel_rfl
@[go_sem] theorem Xc3:layOf Tryz.prog 12=some ⟨1,false,8,[.int .u64 0],(.int .u64)⟩:=by kernel_rfl
@[go_sem] theorem ty12:tyA Tryz.prog 12=some ⟨⟨1,false,8,[.int .u64 0],(.int .u64)⟩,[],none,none⟩:=by kernel_rfl
@[go_sem] theorem Xf7:layOf Tryz.prog 13=some ⟨2,true,24,[.str ⟨#[]⟩, .int .u64 0], .struct⟩:=by kernel_rfl
@[go_sem] theorem ty13:tyA Tryz.prog 13=some ⟨⟨2,true,24,[.str ⟨#[]⟩, .int .u64 0], .struct⟩,[(0,some ⟨1,false,16,[.str ⟨#[]⟩], .str⟩),(1,some ⟨1,false,8,[.int .u64 0],(.int .u64)⟩)],none,none⟩:=by kernel_rfl
@[go_sem] theorem Xca:layOf Tryz.prog 14=some ⟨2,true,24,[.str ⟨#[]⟩, .int .u64 0], .struct⟩:=by kernel_rfl
@[go_sem] theorem ty14:tyA Tryz.prog 14=some ⟨⟨2,true,24,[.str ⟨#[]⟩, .int .u64 0], .struct⟩,[(0,some ⟨1,false,16,[.str ⟨#[]⟩], .str⟩),(1,some ⟨1,false,8,[.int .u64 0],(.int .u64)⟩)],none,none⟩:=by kernel_rfl
@[go_sem] theorem Xfs:layOf Tryz.prog 15=some ⟨1,false,8,[.nilptr], .ptr⟩:=by kernel_rfl
@[go_sem] theorem ty15:tyA Tryz.prog 15=some ⟨⟨1,false,8,[.nilptr], .ptr⟩,[],none,none⟩:=by kernel_rfl
@[go_sem] theorem Xa7:layOf Tryz.prog 16=some ⟨1,false,8,[.nilptr], .ptr⟩:=by kernel_rfl
@[go_sem] theorem ty16:tyA Tryz.prog 16=some ⟨⟨1,false,8,[.nilptr], .ptr⟩,[],none,none⟩:=by kernel_rfl
@[go_sem] theorem Xdk:layOf Tryz.prog 17=some ⟨1,false,8,[.nilptr], .ptr⟩:=by kernel_rfl
@[go_sem] theorem ty17:tyA Tryz.prog 17=some ⟨⟨1,false,8,[.nilptr], .ptr⟩,[],none,none⟩:=by kernel_rfl
@[go_sem] theorem Xfj:layOf Tryz.prog 18=some ⟨1,true,8,[.nilptr], .struct⟩:=by kernel_rfl
@[go_sem] theorem ty18:tyA Tryz.prog 18=some ⟨⟨1,true,8,[.nilptr], .struct⟩,[(0,some ⟨1,false,8,[.nilptr], .ptr⟩)],none,none⟩:=by kernel_rfl
@[go_sem] theorem Yzu:layOf Tryz.prog 19=some ⟨1,true,8,[.nilptr], .struct⟩:=by kernel_rfl
@[go_sem] theorem ty19:tyA Tryz.prog 19=some ⟨⟨1,true,8,[.nilptr], .struct⟩,[(0,some ⟨1,false,8,[.nilptr], .ptr⟩)],none,none⟩:=by kernel_rfl
@[go_sem] theorem Xbk:layOf Tryz.prog 20=some ⟨1,false,16,[.nilif], .iface⟩:=by kernel_rfl
@[go_sem] theorem ty20:tyA Tryz.prog 20=some ⟨⟨1,false,16,[.nilif], .iface⟩,[],none,none⟩:=by kernel_rfl
@[go_sem] theorem Xce:layOf Tryz.prog 21=some ⟨1,false,4,[.int .i32 0],(.int .i32)⟩:=by kernel_rfl
@[go_sem] theorem ty21:tyA Tryz.prog 21=some ⟨⟨1,false,4,[.int .i32 0],(.int .i32)⟩,[],none,none⟩:=by kernel_rfl
@[go_sem] theorem Xec:layOf Tryz.prog 22=some ⟨1,false,24,[.nils], .slice⟩:=by kernel_rfl
@[go_sem] theorem ty22:tyA Tryz.prog 22=some ⟨⟨1,false,24,[.nils], .slice⟩,[],some ⟨4,true,40,[.str ⟨#[]⟩, .int .i64 0, .int .i64 0, .bool false], .struct⟩,none⟩:=by kernel_rfl
@[go_sem] theorem Xah:layOf Tryz.prog 23=some ⟨1,false,24,[.nils], .slice⟩:=by kernel_rfl
@[go_sem] theorem ty23:tyA Tryz.prog 23=some ⟨⟨1,false,24,[.nils], .slice⟩,[],some ⟨1,false,24,[.nils], .slice⟩,none⟩:=by kernel_rfl
@[go_sem] theorem Yu1:layOf Tryz.prog 24=some ⟨1,false,24,[.nils], .slice⟩:=by kernel_rfl
@[go_sem] theorem ty24:tyA Tryz.prog 24=some ⟨⟨1,false,24,[.nils], .slice⟩,[],some ⟨5,true,72,[.bool false, .int .i64 0, .nils, .int .i64 0, .nils], .struct⟩,none⟩:=by kernel_rfl
@[go_sem] theorem Xao:layOf Tryz.prog 25=some ⟨1,false,8,[.nilfn], .func⟩:=by kernel_rfl
@[go_sem] theorem ty25:tyA Tryz.prog 25=some ⟨⟨1,false,8,[.nilfn], .func⟩,[],none,none⟩:=by kernel_rfl
@[go_sem] theorem Xcp:layOf Tryz.prog 26=some ⟨1,false,8,[.int .i64 0],(.int .i64)⟩:=by kernel_rfl
@[go_sem] theorem ty26:tyA Tryz.prog 26=some ⟨⟨1,false,8,[.int .i64 0],(.int .i64)⟩,[],none,none⟩:=by kernel_rfl
@[go_sem] theorem Xfv:layOf Tryz.prog 28=some ⟨1,false,8,[.nilfn], .func⟩:=by kernel_rfl
@[go_sem] theorem ty28:tyA Tryz.prog 28=some ⟨⟨1,false,8,[.nilfn], .func⟩,[],none,none⟩:=by kernel_rfl
@[go_sem] theorem Xd4:layOf Tryz.prog 29=some ⟨1,false,8,[.nilfn], .func⟩:=by kernel_rfl
@[go_sem] theorem ty29:tyA Tryz.prog 29=some ⟨⟨1,false,8,[.nilfn], .func⟩,[],none,none⟩:=by kernel_rfl
@[go_sem] theorem Xex:layOf Tryz.prog 30=some ⟨1,false,8,[.nilfn], .func⟩:=by kernel_rfl
@[go_sem] theorem ty30:tyA Tryz.prog 30=some ⟨⟨1,false,8,[.nilfn], .func⟩,[],none,none⟩:=by kernel_rfl
@[go_sem] theorem Xe4:layOf Tryz.prog 31=some ⟨1,false,24,[.nils], .slice⟩:=by kernel_rfl
@[go_sem] theorem ty31:tyA Tryz.prog 31=some ⟨⟨1,false,24,[.nils], .slice⟩,[],some ⟨1,false,8,[.int .i64 0],(.int .i64)⟩,none⟩:=by kernel_rfl
@[go_sem] theorem Xdr:layOf Tryz.prog 33=some ⟨1,false,8,[.nilfn], .func⟩:=by kernel_rfl
@[go_sem] theorem ty33:tyA Tryz.prog 33=some ⟨⟨1,false,8,[.nilfn], .func⟩,[],none,none⟩:=by kernel_rfl
@[go_sem] theorem Xax:layOf Tryz.prog 34=some ⟨1,false,8,[.nilfn], .func⟩:=by kernel_rfl
@[go_sem] theorem ty34:tyA Tryz.prog 34=some ⟨⟨1,false,8,[.nilfn], .func⟩,[],none,none⟩:=by kernel_rfl
@[go_sem] theorem Xfq:layOf Tryz.prog 36=some ⟨1,false,8,[.nilfn], .func⟩:=by kernel_rfl
@[go_sem] theorem ty36:tyA Tryz.prog 36=some ⟨⟨1,false,8,[.nilfn], .func⟩,[],none,none⟩:=by kernel_rfl
@[go_sem] theorem Yzj:layOf Tryz.prog 37=some ⟨1,false,24,[.nils], .slice⟩:=by kernel_rfl
@[go_sem] theorem ty37:tyA Tryz.prog 37=some ⟨⟨1,false,24,[.nils], .slice⟩,[],some ⟨1,false,24,[.nils], .slice⟩,none⟩:=by kernel_rfl
@[go_sem] theorem Xb2:layOf Tryz.prog 38=some ⟨2,true,32,[.int .i64 0, .nils], .struct⟩:=by kernel_rfl
@[go_sem] theorem ty38:tyA Tryz.prog 38=some ⟨⟨2,true,32,[.int .i64 0, .nils], .struct⟩,[(0,some ⟨1,false,8,[.int .i64 0],(.int .i64)⟩),(1,some ⟨1,false,24,[.nils], .slice⟩)],none,none⟩:=by kernel_rfl
@[go_sem] theorem Yzk:layOf Tryz.prog 39=some ⟨2,true,32,[.int .i64 0, .nils], .struct⟩:=by kernel_rfl
@[go_sem] theorem ty39:tyA Tryz.prog 39=some ⟨⟨2,true,32,[.int .i64 0, .nils], .struct⟩,[(0,some ⟨1,false,8,[.int .i64 0],(.int .i64)⟩),(1,some ⟨1,false,24,[.nils], .slice⟩)],none,none⟩:=by kernel_rfl
@[go_sem] theorem Xbe:layOf Tryz.prog 40=some ⟨1,false,8,[.nilfn], .func⟩:=by kernel_rfl
@[go_sem] theorem ty40:tyA Tryz.prog 40=some ⟨⟨1,false,8,[.nilfn], .func⟩,[],none,none⟩:=by kernel_rfl
@[go_sem] theorem Xf1:layOf Tryz.prog 41=some ⟨1,false,8,[.nilfn], .func⟩:=by kernel_rfl
@[go_sem] theorem ty41:tyA Tryz.prog 41=some ⟨⟨1,false,8,[.nilfn], .func⟩,[],none,none⟩:=by kernel_rfl
@[go_sem] theorem Xea:layOf Tryz.prog 42=some ⟨1,false,8,[.nilfn], .func⟩:=by kernel_rfl
@[go_sem] theorem ty42:tyA Tryz.prog 42=some ⟨⟨1,false,8,[.nilfn], .func⟩,[],none,none⟩:=by kernel_rfl
@[go_sem] theorem Xbb:layOf Tryz.prog 43=some ⟨1,false,8,[.nilfn], .func⟩:=by kernel_rfl
@[go_sem] theorem ty43:tyA Tryz.prog 43=some ⟨⟨1,false,8,[.nilfn], .func⟩,[],none,none⟩:=by kernel_rfl
@[go_sem] theorem Xb6:layOf Tryz.prog 44=some ⟨1,false,8,[.nilfn], .func⟩:=by kernel_rfl
@[go_sem] theorem ty44:tyA Tryz.prog 44=some ⟨⟨1,false,8,[.nilfn], .func⟩,[],none,none⟩:=by kernel_rfl
@[go_sem] theorem Xay:layOf Tryz.prog 45=some ⟨1,false,8,[.nilfn], .func⟩:=by kernel_rfl
@[go_sem] theorem ty45:tyA Tryz.prog 45=some ⟨⟨1,false,8,[.nilfn], .func⟩,[],none,none⟩:=by kernel_rfl
@[go_sem] theorem Xei:layOf Tryz.prog 46=some ⟨1,false,24,[.nils], .slice⟩:=by kernel_rfl
@[go_sem] theorem ty46:tyA Tryz.prog 46=some ⟨⟨1,false,24,[.nils], .slice⟩,[],some ⟨2,true,32,[.int .i64 0, .nils], .struct⟩,none⟩:=by kernel_rfl
@[go_sem] theorem Xdv:layOf Tryz.prog 47=some ⟨2,true,32,[.int .i64 0, .nils], .struct⟩:=by kernel_rfl
@[go_sem] theorem ty47:tyA Tryz.prog 47=some ⟨⟨2,true,32,[.int .i64 0, .nils], .struct⟩,[(0,some ⟨1,false,8,[.int .i64 0],(.int .i64)⟩),(1,some ⟨1,false,24,[.nils], .slice⟩)],none,none⟩:=by kernel_rfl
@[go_sem] theorem Xbs:layOf Tryz.prog 48=some ⟨2,true,32,[.int .i64 0, .nils], .struct⟩:=by kernel_rfl
@[go_sem] theorem ty48:tyA Tryz.prog 48=some ⟨⟨2,true,32,[.int .i64 0, .nils], .struct⟩,[(0,some ⟨1,false,8,[.int .i64 0],(.int .i64)⟩),(1,some ⟨1,false,24,[.nils], .slice⟩)],none,none⟩:=by kernel_rfl
@[go_sem] theorem Xdl:layOf Tryz.prog 49=some ⟨5,true,72,[.bool false, .int .i64 0, .nils, .int .i64 0, .nils], .struct⟩:=by kernel_rfl
@[go_sem] theorem ty49:tyA Tryz.prog 49=some ⟨⟨5,true,72,[.bool false, .int .i64 0, .nils, .int .i64 0, .nils], .struct⟩,[(0,some ⟨1,false,1,[.bool false], .bool⟩),(1,some ⟨2,true,32,[.int .i64 0, .nils], .struct⟩),(3,some ⟨2,true,32,[.int .i64 0, .nils], .struct⟩)],none,none⟩:=by kernel_rfl
@[go_sem] theorem Xe6:layOf Tryz.prog 50=some ⟨5,true,72,[.bool false, .int .i64 0, .nils, .int .i64 0, .nils], .struct⟩:=by kernel_rfl
@[go_sem] theorem ty50:tyA Tryz.prog 50=some ⟨⟨5,true,72,[.bool false, .int .i64 0, .nils, .int .i64 0, .nils], .struct⟩,[(0,some ⟨1,false,1,[.bool false], .bool⟩),(1,some ⟨2,true,32,[.int .i64 0, .nils], .struct⟩),(3,some ⟨2,true,32,[.int .i64 0, .nils], .struct⟩)],none,none⟩:=by kernel_rfl
@[go_sem] theorem Xfo:layOf Tryz.prog 51=some ⟨1,false,8,[.nilfn], .func⟩:=by kernel_rfl
@[go_sem] theorem ty51:tyA Tryz.prog 51=some ⟨⟨1,false,8,[.nilfn], .func⟩,[],none,none⟩:=by kernel_rfl
@[go_sem] theorem Xav:layOf Tryz.prog 52=some ⟨1,false,8,[.nilfn], .func⟩:=by kernel_rfl
@[go_sem] theorem ty52:tyA Tryz.prog 52=some ⟨⟨1,false,8,[.nilfn], .func⟩,[],none,none⟩:=by kernel_rfl
@[go_sem] theorem Xc6:layOf Tryz.prog 53=some ⟨1,false,8,[.nilfn], .func⟩:=by kernel_rfl
@[go_sem] theorem ty53:tyA Tryz.prog 53=some ⟨⟨1,false,8,[.nilfn], .func⟩,[],none,none⟩:=by kernel_rfl
@[go_sem] theorem Yzw:layOf Tryz.prog 54=some ⟨1,false,8,[.nilfn], .func⟩:=by kernel_rfl
@[go_sem] theorem ty54:tyA Tryz.prog 54=some ⟨⟨1,false,8,[.nilfn], .func⟩,[],none,none⟩:=by kernel_rfl
@[go_sem] theorem Xfp:layOf Tryz.prog 55=some ⟨1,false,8,[.nilfn], .func⟩:=by kernel_rfl
@[go_sem] theorem ty55:tyA Tryz.prog 55=some ⟨⟨1,false,8,[.nilfn], .func⟩,[],none,none⟩:=by kernel_rfl
@[go_sem] theorem Xdf:layOf Tryz.prog 56=some ⟨1,false,24,[.nils], .slice⟩:=by kernel_rfl
@[go_sem] theorem ty56:tyA Tryz.prog 56=some ⟨⟨1,false,24,[.nils], .slice⟩,[],some ⟨5,true,72,[.int .i64 0, .nils, .int .i64 0, .nils, .int .i64 0], .struct⟩,none⟩:=by kernel_rfl
@[go_sem] theorem Xb5:layOf Tryz.prog 57=some ⟨1,false,8,[.nilfn], .func⟩:=by kernel_rfl
@[go_sem] theorem ty57:tyA Tryz.prog 57=some ⟨⟨1,false,8,[.nilfn], .func⟩,[],none,none⟩:=by kernel_rfl
@[go_sem] theorem Xff:layOf Tryz.prog 59=some ⟨1,false,8,[.nilfn], .func⟩:=by kernel_rfl
@[go_sem] theorem ty59:tyA Tryz.prog 59=some ⟨⟨1,false,8,[.nilfn], .func⟩,[],none,none⟩:=by kernel_rfl
@[go_sem] theorem Xfd:layOf Tryz.prog 60=some ⟨1,false,8,[.nilfn], .func⟩:=by kernel_rfl
@[go_sem] theorem ty60:tyA Tryz.prog 60=some ⟨⟨1,false,8,[.nilfn], .func⟩,[],none,none⟩:=by kernel_rfl
@[go_sem] theorem Xaa:layOf Tryz.prog 61=some ⟨1,false,8,[.nilfn], .func⟩:=by kernel_rfl
@[go_sem] theorem ty61:tyA Tryz.prog 61=some ⟨⟨1,false,8,[.nilfn], .func⟩,[],none,none⟩:=by kernel_rfl
@[go_sem] theorem Xd2:layOf Tryz.prog 62=some ⟨1,false,8,[.nilfn], .func⟩:=by kernel_rfl
@[go_sem] theorem ty62:tyA Tryz.prog 62=some ⟨⟨1,false,8,[.nilfn], .func⟩,[],none,none⟩:=by kernel_rfl
@[go_sem] theorem Xfy:layOf Tryz.prog 63=some ⟨1,false,8,[.nilfn], .func⟩:=by kernel_rfl
@[go_sem] theorem ty63:tyA Tryz.prog 63=some ⟨⟨1,false,8,[.nilfn], .func⟩,[],none,none⟩:=by kernel_rfl
@[go_sem] theorem Xa4:layOf Tryz.prog 64=some ⟨1,false,8,[.nilfn], .func⟩:=by kernel_rfl
@[go_sem] theorem ty64:tyA Tryz.prog 64=some ⟨⟨1,false,8,[.nilfn], .func⟩,[],none,none⟩:=by kernel_rfl
@[go_sem] theorem Xe3:layOf Tryz.prog 65=some ⟨1,false,8,[.nilfn], .func⟩:=by kernel_rfl
@[go_sem] theorem ty65:tyA Tryz.prog 65=some ⟨⟨1,false,8,[.nilfn], .func⟩,[],none,none⟩:=by kernel_rfl
@[go_sem] theorem Yzt:layOf Tryz.prog 67=some ⟨1,false,8,[.nilfn], .func⟩:=by kernel_rfl
@[go_sem] theorem ty67:tyA Tryz.prog 67=some ⟨⟨1,false,8,[.nilfn], .func⟩,[],none,none⟩:=by kernel_rfl
@[go_sem] theorem Xbo:layOf Tryz.prog 68=some ⟨1,false,8,[.nilfn], .func⟩:=by kernel_rfl
@[go_sem] theorem ty68:tyA Tryz.prog 68=some ⟨⟨1,false,8,[.nilfn], .func⟩,[],none,none⟩:=by kernel_rfl
@[go_sem] theorem Xc5:layOf Tryz.prog 69=some ⟨1,false,8,[.nilfn], .func⟩:=by kernel_rfl
@[go_sem] theorem ty69:tyA Tryz.prog 69=some ⟨⟨1,false,8,[.nilfn], .func⟩,[],none,none⟩:=by kernel_rfl
@[go_sem] theorem Xfr:layOf Tryz.prog 70=some ⟨4,true,40,[.str ⟨#[]⟩, .int .i64 0, .int .i64 0, .bool false], .struct⟩:=by kernel_rfl
@[go_sem] theorem ty70:tyA Tryz.prog 70=some ⟨⟨4,true,40,[.str ⟨#[]⟩, .int .i64 0, .int .i64 0, .bool false], .struct⟩,[(0,some ⟨1,false,16,[.str ⟨#[]⟩], .str⟩),(1,some ⟨1,false,8,[.int .i64 0],(.int .i64)⟩),(2,some ⟨1,false,8,[.int .i64 0],(.int .i64)⟩),(3,some ⟨1,false,1,[.bool false], .bool⟩)],none,none⟩:=by kernel_rfl
@[go_sem] theorem Xfb:eqTy Tryz.prog 70 [.str,(.int .i64),(.int .i64), .bool]=true:=by kernel_rfl
@[go_sem] theorem Xdp:layOf Tryz.prog 71=some ⟨4,true,40,[.str ⟨#[]⟩, .int .i64 0, .int .i64 0, .bool false], .struct⟩:=by kernel_rfl
@[go_sem] theorem ty71:tyA Tryz.prog 71=some ⟨⟨4,true,40,[.str ⟨#[]⟩, .int .i64 0, .int .i64 0, .bool false], .struct⟩,[(0,some ⟨1,false,16,[.str ⟨#[]⟩], .str⟩),(1,some ⟨1,false,8,[.int .i64 0],(.int .i64)⟩),(2,some ⟨1,false,8,[.int .i64 0],(.int .i64)⟩),(3,some ⟨1,false,1,[.bool false], .bool⟩)],none,none⟩:=by kernel_rfl
@[go_sem] theorem Xcy:eqTy Tryz.prog 71 [.str,(.int .i64),(.int .i64), .bool]=true:=by kernel_rfl
@[go_sem] theorem Xd7:layOf Tryz.prog 72=some ⟨1,false,8,[.nilfn], .func⟩:=by kernel_rfl
@[go_sem] theorem ty72:tyA Tryz.prog 72=some ⟨⟨1,false,8,[.nilfn], .func⟩,[],none,none⟩:=by kernel_rfl
@[go_sem] theorem Xew:layOf Tryz.prog 73=some ⟨1,false,8,[.nilfn], .func⟩:=by kernel_rfl
@[go_sem] theorem ty73:tyA Tryz.prog 73=some ⟨⟨1,false,8,[.nilfn], .func⟩,[],none,none⟩:=by kernel_rfl
@[go_sem] theorem Xen:layOf Tryz.prog 74=some ⟨1,false,8,[.nilfn], .func⟩:=by kernel_rfl
@[go_sem] theorem ty74:tyA Tryz.prog 74=some ⟨⟨1,false,8,[.nilfn], .func⟩,[],none,none⟩:=by kernel_rfl
@[go_sem] theorem Xd5:layOf Tryz.prog 75=some ⟨1,false,8,[.nilfn], .func⟩:=by kernel_rfl
@[go_sem] theorem ty75:tyA Tryz.prog 75=some ⟨⟨1,false,8,[.nilfn], .func⟩,[],none,none⟩:=by kernel_rfl
@[go_sem] theorem Xe2:layOf Tryz.prog 76=some ⟨1,false,8,[.nilfn], .func⟩:=by kernel_rfl
@[go_sem] theorem ty76:tyA Tryz.prog 76=some ⟨⟨1,false,8,[.nilfn], .func⟩,[],none,none⟩:=by kernel_rfl
@[go_sem] theorem Xf9:layOf Tryz.prog 77=some ⟨1,false,8,[.nilfn], .func⟩:=by kernel_rfl
@[go_sem] theorem ty77:tyA Tryz.prog 77=some ⟨⟨1,false,8,[.nilfn], .func⟩,[],none,none⟩:=by kernel_rfl
@[go_sem] theorem Xcm:layOf Tryz.prog 78=some ⟨1,false,8,[.nilfn], .func⟩:=by kernel_rfl
@[go_sem] theorem ty78:tyA Tryz.prog 78=some ⟨⟨1,false,8,[.nilfn], .func⟩,[],none,none⟩:=by kernel_rfl
@[go_sem] theorem Xcq:layOf Tryz.prog 79=some ⟨1,false,8,[.nilfn], .func⟩:=by kernel_rfl
@[go_sem] theorem ty79:tyA Tryz.prog 79=some ⟨⟨1,false,8,[.nilfn], .func⟩,[],none,none⟩:=by kernel_rfl
@[go_sem] theorem Xcv:layOf Tryz.prog 80=some ⟨1,false,8,[.nilfn], .func⟩:=by kernel_rfl
@[go_sem] theorem ty80:tyA Tryz.prog 80=some ⟨⟨1,false,8,[.nilfn], .func⟩,[],none,none⟩:=by kernel_rfl
@[go_sem] theorem Xfw:layOf Tryz.prog 81=some ⟨1,false,8,[.nilfn], .func⟩:=by kernel_rfl
@[go_sem] theorem ty81:tyA Tryz.prog 81=some ⟨⟨1,false,8,[.nilfn], .func⟩,[],none,none⟩:=by kernel_rfl
@[go_sem] theorem Xad:layOf Tryz.prog 82=some ⟨1,false,8,[.nilfn], .func⟩:=by kernel_rfl
@[go_sem] theorem ty82:tyA Tryz.prog 82=some ⟨⟨1,false,8,[.nilfn], .func⟩,[],none,none⟩:=by kernel_rfl
@[go_sem] theorem Yzl:layOf Tryz.prog 83=some ⟨5,true,72,[.int .i64 0, .bool false, .nils, .int .i64 0, .nils], .struct⟩:=by kernel_rfl
@[go_sem] theorem ty83:tyA Tryz.prog 83=some ⟨⟨5,true,72,[.int .i64 0, .bool false, .nils, .int .i64 0, .nils], .struct⟩,[(0,some ⟨1,false,8,[.int .i64 0],(.int .i64)⟩),(1,some ⟨1,false,1,[.bool false], .bool⟩),(2,some ⟨1,false,24,[.nils], .slice⟩),(3,some ⟨2,true,32,[.int .i64 0, .nils], .struct⟩)],none,none⟩:=by kernel_rfl
@[go_sem] theorem Xba:layOf Tryz.prog 84=some ⟨5,true,72,[.int .i64 0, .bool false, .nils, .int .i64 0, .nils], .struct⟩:=by kernel_rfl
@[go_sem] theorem ty84:tyA Tryz.prog 84=some ⟨⟨5,true,72,[.int .i64 0, .bool false, .nils, .int .i64 0, .nils], .struct⟩,[(0,some ⟨1,false,8,[.int .i64 0],(.int .i64)⟩),(1,some ⟨1,false,1,[.bool false], .bool⟩),(2,some ⟨1,false,24,[.nils], .slice⟩),(3,some ⟨2,true,32,[.int .i64 0, .nils], .struct⟩)],none,none⟩:=by kernel_rfl
@[go_sem] theorem Xam:layOf Tryz.prog 85=some ⟨5,true,72,[.int .i64 0, .nils, .int .i64 0, .nils, .int .i64 0], .struct⟩:=by kernel_rfl
@[go_sem] theorem ty85:tyA Tryz.prog 85=some ⟨⟨5,true,72,[.int .i64 0, .nils, .int .i64 0, .nils, .int .i64 0], .struct⟩,[(0,some ⟨2,true,32,[.int .i64 0, .nils], .struct⟩),(2,some ⟨2,true,32,[.int .i64 0, .nils], .struct⟩),(4,some ⟨1,false,8,[.int .i64 0],(.int .i64)⟩)],none,none⟩:=by kernel_rfl
@[go_sem] theorem Xbm:layOf Tryz.prog 86=some ⟨5,true,72,[.int .i64 0, .nils, .int .i64 0, .nils, .int .i64 0], .struct⟩:=by kernel_rfl
@[go_sem] theorem ty86:tyA Tryz.prog 86=some ⟨⟨5,true,72,[.int .i64 0, .nils, .int .i64 0, .nils, .int .i64 0], .struct⟩,[(0,some ⟨2,true,32,[.int .i64 0, .nils], .struct⟩),(2,some ⟨2,true,32,[.int .i64 0, .nils], .struct⟩),(4,some ⟨1,false,8,[.int .i64 0],(.int .i64)⟩)],none,none⟩:=by kernel_rfl
@[go_sem] theorem Xbz:layOf Tryz.prog 88=some ⟨1,false,8,[.nilfn], .func⟩:=by kernel_rfl
@[go_sem] theorem ty88:tyA Tryz.prog 88=some ⟨⟨1,false,8,[.nilfn], .func⟩,[],none,none⟩:=by kernel_rfl
@[go_sem] theorem Xa9:layOf Tryz.prog 89=some ⟨1,false,8,[.nilfn], .func⟩:=by kernel_rfl
@[go_sem] theorem ty89:tyA Tryz.prog 89=some ⟨⟨1,false,8,[.nilfn], .func⟩,[],none,none⟩:=by kernel_rfl
@[go_sem] theorem Xbv:layOf Tryz.prog 90=some ⟨1,false,8,[.nilfn], .func⟩:=by kernel_rfl
@[go_sem] theorem ty90:tyA Tryz.prog 90=some ⟨⟨1,false,8,[.nilfn], .func⟩,[],none,none⟩:=by kernel_rfl
@[go_sem] theorem Xap:layOf Tryz.prog 91=some ⟨1,false,8,[.nilfn], .func⟩:=by kernel_rfl
@[go_sem] theorem ty91:tyA Tryz.prog 91=some ⟨⟨1,false,8,[.nilfn], .func⟩,[],none,none⟩:=by kernel_rfl
@[go_sem] theorem Xbn:layOf Tryz.prog 92=some ⟨1,false,8,[.nilfn], .func⟩:=by kernel_rfl
@[go_sem] theorem ty92:tyA Tryz.prog 92=some ⟨⟨1,false,8,[.nilfn], .func⟩,[],none,none⟩:=by kernel_rfl
@[go_sem] theorem Xdo:layOf Tryz.prog 94=some ⟨1,false,8,[.nilfn], .func⟩:=by kernel_rfl
@[go_sem] theorem ty94:tyA Tryz.prog 94=some ⟨⟨1,false,8,[.nilfn], .func⟩,[],none,none⟩:=by kernel_rfl
@[go_sem] theorem Xek:layOf Tryz.prog 95=some ⟨1,false,8,[.nilfn], .func⟩:=by kernel_rfl
@[go_sem] theorem ty95:tyA Tryz.prog 95=some ⟨⟨1,false,8,[.nilfn], .func⟩,[],none,none⟩:=by kernel_rfl
@[go_sem] theorem Xer:layOf Tryz.prog 96=some ⟨1,false,8,[.nilfn], .func⟩:=by kernel_rfl
@[go_sem] theorem ty96:tyA Tryz.prog 96=some ⟨⟨1,false,8,[.nilfn], .func⟩,[],none,none⟩:=by kernel_rfl
@[go_sem] theorem Xa5:layOf Tryz.prog 97=some ⟨1,false,8,[.nilfn], .func⟩:=by kernel_rfl
@[go_sem] theorem ty97:tyA Tryz.prog 97=some ⟨⟨1,false,8,[.nilfn], .func⟩,[],none,none⟩:=by kernel_rfl
@[go_sem] theorem Xd0:layOf Tryz.prog 98=some ⟨1,false,8,[.nilfn], .func⟩:=by kernel_rfl
@[go_sem] theorem ty98:tyA Tryz.prog 98=some ⟨⟨1,false,8,[.nilfn], .func⟩,[],none,none⟩:=by kernel_rfl
@[go_sem] theorem Xf2:layOf Tryz.prog 99=some ⟨1,false,8,[.nilfn], .func⟩:=by kernel_rfl
@[go_sem] theorem ty99:tyA Tryz.prog 99=some ⟨⟨1,false,8,[.nilfn], .func⟩,[],none,none⟩:=by kernel_rfl
@[go_sem] theorem Yzb:layOf Tryz.prog 100=some ⟨1,false,8,[.nilfn], .func⟩:=by kernel_rfl
@[go_sem] theorem Xdh:tyA Tryz.prog 100=some ⟨⟨1,false,8,[.nilfn], .func⟩,[],none,none⟩:=by kernel_rfl
@[go_sem] theorem Yx5:layOf Tryz.prog 101=some ⟨1,false,8,[.nilfn], .func⟩:=by kernel_rfl
@[go_sem] theorem Xdz:tyA Tryz.prog 101=some ⟨⟨1,false,8,[.nilfn], .func⟩,[],none,none⟩:=by kernel_rfl
@[go_sem] theorem Ywb:layOf Tryz.prog 102=some ⟨1,false,8,[.nilfn], .func⟩:=by kernel_rfl
@[go_sem] theorem Xeo:tyA Tryz.prog 102=some ⟨⟨1,false,8,[.nilfn], .func⟩,[],none,none⟩:=by kernel_rfl
@[go_sem] theorem Yxb:layOf Tryz.prog 103=some ⟨1,false,8,[.nilfn], .func⟩:=by kernel_rfl
@[go_sem] theorem Xa0:tyA Tryz.prog 103=some ⟨⟨1,false,8,[.nilfn], .func⟩,[],none,none⟩:=by kernel_rfl
@[go_sem] theorem Yw1:layOf Tryz.prog 104=some ⟨1,false,8,[.nilfn], .func⟩:=by kernel_rfl
@[go_sem] theorem Xan:tyA Tryz.prog 104=some ⟨⟨1,false,8,[.nilfn], .func⟩,[],none,none⟩:=by kernel_rfl
@[go_sem] theorem Yy7:layOf Tryz.prog 105=some ⟨1,false,8,[.nilfn], .func⟩:=by kernel_rfl
@[go_sem] theorem Xdn:tyA Tryz.prog 105=some ⟨⟨1,false,8,[.nilfn], .func⟩,[],none,none⟩:=by kernel_rfl
@[go_sem] theorem Yx8:layOf Tryz.prog 106=some ⟨1,false,8,[.nilfn], .func⟩:=by kernel_rfl
@[go_sem] theorem Xdi:tyA Tryz.prog 106=some ⟨⟨1,false,8,[.nilfn], .func⟩,[],none,none⟩:=by kernel_rfl
@[go_sem] theorem Yvc:layOf Tryz.prog 107=some ⟨1,false,8,[.nilfn], .func⟩:=by kernel_rfl
@[go_sem] theorem Xe0:tyA Tryz.prog 107=some ⟨⟨1,false,8,[.nilfn], .func⟩,[],none,none⟩:=by kernel_rfl
@[go_sem] theorem Ywe:layOf Tryz.prog 108=some ⟨1,false,8,[.nilfn], .func⟩:=by kernel_rfl
@[go_sem] theorem Xbi:tyA Tryz.prog 108=some ⟨⟨1,false,8,[.nilfn], .func⟩,[],none,none⟩:=by kernel_rfl
@[go_sem] theorem Yxs:layOf Tryz.prog 109=some ⟨1,false,8,[.nilfn], .func⟩:=by kernel_rfl
@[go_sem] theorem Xbl:tyA Tryz.prog 109=some ⟨⟨1,false,8,[.nilfn], .func⟩,[],none,none⟩:=by kernel_rfl
@[go_sem] theorem Yz3:layOf Tryz.prog 110=some ⟨1,false,8,[.nilfn], .func⟩:=by kernel_rfl
@[go_sem] theorem Xaq:tyA Tryz.prog 110=some ⟨⟨1,false,8,[.nilfn], .func⟩,[],none,none⟩:=by kernel_rfl
@[go_sem] theorem Yvp:layOf Tryz.prog 111=some ⟨1,false,8,[.nilfn], .func⟩:=by kernel_rfl
@[go_sem] theorem Xag:tyA Tryz.prog 111=some ⟨⟨1,false,8,[.nilfn], .func⟩,[],none,none⟩:=by kernel_rfl
@[go_sem] theorem Yv3:layOf Tryz.prog 112=some ⟨1,false,8,[.nilfn], .func⟩:=by kernel_rfl
@[go_sem] theorem Xf3:tyA Tryz.prog 112=some ⟨⟨1,false,8,[.nilfn], .func⟩,[],none,none⟩:=by kernel_rfl
@[go_sem] theorem Yz1:layOf Tryz.prog 113=some ⟨1,false,8,[.nilfn], .func⟩:=by kernel_rfl
@[go_sem] theorem Xa1:tyA Tryz.prog 113=some ⟨⟨1,false,8,[.nilfn], .func⟩,[],none,none⟩:=by kernel_rfl
@[go_sem] theorem Yxi:layOf Tryz.prog 114=some ⟨1,false,8,[.nilfn], .func⟩:=by kernel_rfl
@[go_sem] theorem Xfl:tyA Tryz.prog 114=some ⟨⟨1,false,8,[.nilfn], .func⟩,[],none,none⟩:=by kernel_rfl
@[go_sem] theorem Ywl:layOf Tryz.prog 115=some ⟨1,false,24,[.nils], .slice⟩:=by kernel_rfl
@[go_sem] theorem Xbx:tyA Tryz.prog 115=some ⟨⟨1,false,24,[.nils], .slice⟩,[],some ⟨3,true,40,[.int .i64 0, .int .i64 0, .nils], .struct⟩,none⟩:=by kernel_rfl
@[go_sem] theorem Yvd:layOf Tryz.prog 117=some ⟨1,false,8,[.nilfn], .func⟩:=by kernel_rfl
@[go_sem] theorem Xbt:tyA Tryz.prog 117=some ⟨⟨1,false,8,[.nilfn], .func⟩,[],none,none⟩:=by kernel_rfl
@[go_sem] theorem Yy6:layOf Tryz.prog 119=some ⟨1,false,8,[.nilfn], .func⟩:=by kernel_rfl
@[go_sem] theorem Xfh:tyA Tryz.prog 119=some ⟨⟨1,false,8,[.nilfn], .func⟩,[],none,none⟩:=by kernel_rfl
@[go_sem] theorem Yyh:layOf Tryz.prog 120=some ⟨1,false,8,[.nilfn], .func⟩:=by kernel_rfl
@[go_sem] theorem Xd1:tyA Tryz.prog 120=some ⟨⟨1,false,8,[.nilfn], .func⟩,[],none,none⟩:=by kernel_rfl
@[go_sem] theorem Yxc:layOf Tryz.prog 121=some ⟨1,false,8,[.nilptr], .ptr⟩:=by kernel_rfl
@[go_sem] theorem Xcs:tyA Tryz.prog 121=some ⟨⟨1,false,8,[.nilptr], .ptr⟩,[],none,none⟩:=by kernel_rfl
@[go_sem] theorem Yyk:layOf Tryz.prog 122=some ⟨1,false,8,[.nilfn], .func⟩:=by kernel_rfl
@[go_sem] theorem Xaf:tyA Tryz.prog 122=some ⟨⟨1,false,8,[.nilfn], .func⟩,[],none,none⟩:=by kernel_rfl
@[go_sem] theorem Yy5:layOf Tryz.prog 123=some ⟨1,false,8,[.nilfn], .func⟩:=by kernel_rfl
@[go_sem] theorem Xfa:tyA Tryz.prog 123=some ⟨⟨1,false,8,[.nilfn], .func⟩,[],none,none⟩:=by kernel_rfl
@[go_sem] theorem Yvi:layOf Tryz.prog 124=some ⟨1,false,8,[.nilfn], .func⟩:=by kernel_rfl
@[go_sem] theorem Xbw:tyA Tryz.prog 124=some ⟨⟨1,false,8,[.nilfn], .func⟩,[],none,none⟩:=by kernel_rfl
@[go_sem] theorem Ywk:layOf Tryz.prog 125=some ⟨1,false,8,[.nilfn], .func⟩:=by kernel_rfl
@[go_sem] theorem Xal:tyA Tryz.prog 125=some ⟨⟨1,false,8,[.nilfn], .func⟩,[],none,none⟩:=by kernel_rfl
@[go_sem] theorem Yz0:layOf Tryz.prog 126=some ⟨1,false,8,[.nilfn], .func⟩:=by kernel_rfl
@[go_sem] theorem Xb0:tyA Tryz.prog 126=some ⟨⟨1,false,8,[.nilfn], .func⟩,[],none,none⟩:=by kernel_rfl
@[go_sem] theorem Yvk:layOf Tryz.prog 127=some ⟨1,false,8,[.nilfn], .func⟩:=by kernel_rfl
@[go_sem] theorem Xel:tyA Tryz.prog 127=some ⟨⟨1,false,8,[.nilfn], .func⟩,[],none,none⟩:=by kernel_rfl
@[go_sem] theorem Yyf:layOf Tryz.prog 128=some ⟨1,false,8,[.nilfn], .func⟩:=by kernel_rfl
@[go_sem] theorem Xe8:tyA Tryz.prog 128=some ⟨⟨1,false,8,[.nilfn], .func⟩,[],none,none⟩:=by kernel_rfl
@[go_sem] theorem Yvu:layOf Tryz.prog 129=some ⟨1,false,8,[.nilfn], .func⟩:=by kernel_rfl
@[go_sem] theorem Xac:tyA Tryz.prog 129=some ⟨⟨1,false,8,[.nilfn], .func⟩,[],none,none⟩:=by kernel_rfl
@[go_sem] theorem Yvb:layOf Tryz.prog 130=some ⟨1,false,8,[.nilfn], .func⟩:=by kernel_rfl
@[go_sem] theorem Xcj:tyA Tryz.prog 130=some ⟨⟨1,false,8,[.nilfn], .func⟩,[],none,none⟩:=by kernel_rfl
@[go_sem] theorem Yw4:layOf Tryz.prog 131=some ⟨1,false,8,[.nilfn], .func⟩:=by kernel_rfl
@[go_sem] theorem Xbp:tyA Tryz.prog 131=some ⟨⟨1,false,8,[.nilfn], .func⟩,[],none,none⟩:=by kernel_rfl
@[go_sem] theorem Yy8:layOf Tryz.prog 132=some ⟨1,false,8,[.nilfn], .func⟩:=by kernel_rfl
@[go_sem] theorem Xa2:tyA Tryz.prog 132=some ⟨⟨1,false,8,[.nilfn], .func⟩,[],none,none⟩:=by kernel_rfl
@[go_sem] theorem Ywp:layOf Tryz.prog 133=some ⟨1,false,8,[.nilfn], .func⟩:=by kernel_rfl
@[go_sem] theorem Xcu:tyA Tryz.prog 133=some ⟨⟨1,false,8,[.nilfn], .func⟩,[],none,none⟩:=by kernel_rfl
@[go_sem] theorem Yvg:layOf Tryz.prog 134=some ⟨6,true,96,[.nils, .bool false, .int .i64 0, .nils, .int .i64 0, .nils], .struct⟩:=by kernel_rfl
@[go_sem] theorem Yzg:tyA Tryz.prog 134=some ⟨⟨6,true,96,[.nils, .bool false, .int .i64 0, .nils, .int .i64 0, .nils], .struct⟩,[(0,some ⟨1,false,24,[.nils], .slice⟩),(1,some ⟨5,true,72,[.bool false, .int .i64 0, .nils, .int .i64 0, .nils], .struct⟩)],none,none⟩:=by kernel_rfl
@[go_sem] theorem Yws:layOf Tryz.prog 135=some ⟨6,true,96,[.nils, .bool false, .int .i64 0, .nils, .int .i64 0, .nils], .struct⟩:=by kernel_rfl
@[go_sem] theorem Xeh:tyA Tryz.prog 135=some ⟨⟨6,true,96,[.nils, .bool false, .int .i64 0, .nils, .int .i64 0, .nils], .struct⟩,[(0,some ⟨1,false,24,[.nils], .slice⟩),(1,some ⟨5,true,72,[.bool false, .int .i64 0, .nils, .int .i64 0, .nils], .struct⟩)],none,none⟩:=by kernel_rfl
@[go_sem] theorem Yvt:layOf Tryz.prog 136=some ⟨1,false,8,[.nilfn], .func⟩:=by kernel_rfl
@[go_sem] theorem Xbj:tyA Tryz.prog 136=some ⟨⟨1,false,8,[.nilfn], .func⟩,[],none,none⟩:=by kernel_rfl
@[go_sem] theorem Yz9:layOf Tryz.prog 137=some ⟨1,false,8,[.nilfn], .func⟩:=by kernel_rfl
@[go_sem] theorem Xbg:tyA Tryz.prog 137=some ⟨⟨1,false,8,[.nilfn], .func⟩,[],none,none⟩:=by kernel_rfl
@[go_sem] theorem Yxd:layOf Tryz.prog 138=some ⟨1,false,8,[.nilfn], .func⟩:=by kernel_rfl
@[go_sem] theorem Xd8:tyA Tryz.prog 138=some ⟨⟨1,false,8,[.nilfn], .func⟩,[],none,none⟩:=by kernel_rfl
@[go_sem] theorem Yz4:layOf Tryz.prog 139=some ⟨1,false,8,[.nilfn], .func⟩:=by kernel_rfl
@[go_sem] theorem Xc0:tyA Tryz.prog 139=some ⟨⟨1,false,8,[.nilfn], .func⟩,[],none,none⟩:=by kernel_rfl
@[go_sem] theorem Yz5:layOf Tryz.prog 140=some ⟨1,false,8,[.nilfn], .func⟩:=by kernel_rfl
@[go_sem] theorem Yzr:tyA Tryz.prog 140=some ⟨⟨1,false,8,[.nilfn], .func⟩,[],none,none⟩:=by kernel_rfl
@[go_sem] theorem Yvl:layOf Tryz.prog 141=some ⟨1,false,8,[.nilfn], .func⟩:=by kernel_rfl
@[go_sem] theorem Xci:tyA Tryz.prog 141=some ⟨⟨1,false,8,[.nilfn], .func⟩,[],none,none⟩:=by kernel_rfl
@[go_sem] theorem Yyz:layOf Tryz.prog 142=some ⟨1,false,8,[.nilfn], .func⟩:=by kernel_rfl
@[go_sem] theorem Xdy:tyA Tryz.prog 142=some ⟨⟨1,false,8,[.nilfn], .func⟩,[],none,none⟩:=by kernel_rfl
@[go_sem] theorem Yv4:layOf Tryz.prog 143=some ⟨1,false,8,[.nilfn], .func⟩:=by kernel_rfl
@[go_sem] theorem Xed:tyA Tryz.prog 143=some ⟨⟨1,false,8,[.nilfn], .func⟩,[],none,none⟩:=by kernel_rfl
@[go_sem] theorem Yx7:layOf Tryz.prog 144=some ⟨1,false,8,[.nilfn], .func⟩:=by kernel_rfl
@[go_sem] theorem Yzx:tyA Tryz.prog 144=some ⟨⟨1,false,8,[.nilfn], .func⟩,[],none,none⟩:=by kernel_rfl
@[go_sem] theorem Ywt:layOf Tryz.prog 145=some ⟨1,false,8,[.nilfn], .func⟩:=by kernel_rfl
@[go_sem] theorem Xb9:tyA Tryz.prog 145=some ⟨⟨1,false,8,[.nilfn], .func⟩,[],none,none⟩:=by kernel_rfl
@[go_sem] theorem Yya:layOf Tryz.prog 146=some ⟨1,false,8,[.nilfn], .func⟩:=by kernel_rfl
@[go_sem] theorem Xcf:tyA Tryz.prog 146=some ⟨⟨1,false,8,[.nilfn], .func⟩,[],none,none⟩:=by kernel_rfl
@[go_sem] theorem Yw6:layOf Tryz.prog 147=some ⟨1,false,8,[.nilfn], .func⟩:=by kernel_rfl
@[go_sem] theorem Xdm:tyA Tryz.prog 147=some ⟨⟨1,false,8,[.nilfn], .func⟩,[],none,none⟩:=by kernel_rfl
@[go_sem] theorem Yyd:layOf Tryz.prog 148=some ⟨1,false,8,[.nilfn], .func⟩:=by kernel_rfl
@[go_sem] theorem Yzh:tyA Tryz.prog 148=some ⟨⟨1,false,8,[.nilfn], .func⟩,[],none,none⟩:=by kernel_rfl
@[go_sem] theorem Ywv:layOf Tryz.prog 149=some ⟨1,false,8,[.nilfn], .func⟩:=by kernel_rfl
@[go_sem] theorem Xdg:tyA Tryz.prog 149=some ⟨⟨1,false,8,[.nilfn], .func⟩,[],none,none⟩:=by kernel_rfl
@[go_sem] theorem Yxh:layOf Tryz.prog 150=some ⟨1,false,8,[.nilfn], .func⟩:=by kernel_rfl
@[go_sem] theorem Xeq:tyA Tryz.prog 150=some ⟨⟨1,false,8,[.nilfn], .func⟩,[],none,none⟩:=by kernel_rfl
@[go_sem] theorem Yw9:layOf Tryz.prog 151=some ⟨1,false,8,[.nilfn], .func⟩:=by kernel_rfl
@[go_sem] theorem Yzz:tyA Tryz.prog 151=some ⟨⟨1,false,8,[.nilfn], .func⟩,[],none,none⟩:=by kernel_rfl
@[go_sem] theorem Yvw:layOf Tryz.prog 152=some ⟨1,false,8,[.nilmap], .map⟩:=by kernel_rfl
@[go_sem] theorem Xfm:tyA Tryz.prog 152=some ⟨⟨1,false,8,[.nilmap], .map⟩,[],some ⟨2,true,32,[.int .i64 0, .nils], .struct⟩,some ⟨1,false,8,[.int .i64 0],(.int .i64)⟩⟩:=by kernel_rfl
@[go_sem] theorem Yyv:layOf Tryz.prog 153=some ⟨1,false,8,[.nilmap], .map⟩:=by kernel_rfl
@[go_sem] theorem Xfn:tyA Tryz.prog 153=some ⟨⟨1,false,8,[.nilmap], .map⟩,[],some ⟨2,true,32,[.int .i64 0, .nils], .struct⟩,some ⟨1,false,8,[.int .i64 0],(.int .i64)⟩⟩:=by kernel_rfl
@[go_sem] theorem Ywd:layOf Tryz.prog 154=some ⟨1,false,8,[.nilfn], .func⟩:=by kernel_rfl
@[go_sem] theorem Xe9:tyA Tryz.prog 154=some ⟨⟨1,false,8,[.nilfn], .func⟩,[],none,none⟩:=by kernel_rfl
@[go_sem] theorem Yy4:layOf Tryz.prog 155=some ⟨1,false,8,[.nilfn], .func⟩:=by kernel_rfl
@[go_sem] theorem Xbh:tyA Tryz.prog 155=some ⟨⟨1,false,8,[.nilfn], .func⟩,[],none,none⟩:=by kernel_rfl
@[go_sem] theorem Yxz:layOf Tryz.prog 156=some ⟨1,false,8,[.nilptr], .ptr⟩:=by kernel_rfl
@[go_sem] theorem Xco:tyA Tryz.prog 156=some ⟨⟨1,false,8,[.nilptr], .ptr⟩,[],none,none⟩:=by kernel_rfl
@[go_sem] theorem Yxr:layOf Tryz.prog 157=some ⟨1,false,8,[.nilfn], .func⟩:=by kernel_rfl
@[go_sem] theorem Xf0:tyA Tryz.prog 157=some ⟨⟨1,false,8,[.nilfn], .func⟩,[],none,none⟩:=by kernel_rfl
@[go_sem] theorem Ywg:layOf Tryz.prog 158=some ⟨1,false,8,[.nilfn], .func⟩:=by kernel_rfl
@[go_sem] theorem Xc8:tyA Tryz.prog 158=some ⟨⟨1,false,8,[.nilfn], .func⟩,[],none,none⟩:=by kernel_rfl
@[go_sem] theorem Yvm:layOf Tryz.prog 159=some ⟨1,false,8,[.nilfn], .func⟩:=by kernel_rfl
@[go_sem] theorem Xa3:tyA Tryz.prog 159=some ⟨⟨1,false,8,[.nilfn], .func⟩,[],none,none⟩:=by kernel_rfl
@[go_sem] theorem Yyl:layOf Tryz.prog 160=some ⟨1,false,8,[.nilfn], .func⟩:=by kernel_rfl
@[go_sem] theorem Xeu:tyA Tryz.prog 160=some ⟨⟨1,false,8,[.nilfn], .func⟩,[],none,none⟩:=by kernel_rfl
@[go_sem] theorem Yw5:layOf Tryz.prog 161=some ⟨1,false,8,[.nilfn], .func⟩:=by kernel_rfl
@[go_sem] theorem Xby:tyA Tryz.prog 161=some ⟨⟨1,false,8,[.nilfn], .func⟩,[],none,none⟩:=by kernel_rfl
@[go_sem] theorem Yze:layOf Tryz.prog 162=some ⟨1,false,8,[.nilfn], .func⟩:=by kernel_rfl
@[go_sem] theorem Yzq:tyA Tryz.prog 162=some ⟨⟨1,false,8,[.nilfn], .func⟩,[],none,none⟩:=by kernel_rfl
@[go_sem] theorem Ywi:layOf Tryz.prog 163=some ⟨1,false,8,[.nilfn], .func⟩:=by kernel_rfl
@[go_sem] theorem Yzi:tyA Tryz.prog 163=some ⟨⟨1,false,8,[.nilfn], .func⟩,[],none,none⟩:=by kernel_rfl
@[go_sem] theorem Yys:layOf Tryz.prog 164=some ⟨1,false,8,[.nilfn], .func⟩:=by kernel_rfl
@[go_sem] theorem Xcr:tyA Tryz.prog 164=some ⟨⟨1,false,8,[.nilfn], .func⟩,[],none,none⟩:=by kernel_rfl
@[go_sem] theorem Yv6:layOf Tryz.prog 165=some ⟨1,false,8,[.nilfn], .func⟩:=by kernel_rfl
@[go_sem] theorem Xds:tyA Tryz.prog 165=some ⟨⟨1,false,8,[.nilfn], .func⟩,[],none,none⟩:=by kernel_rfl
@[go_sem] theorem Ywf:layOf Tryz.prog 166=some ⟨1,false,8,[.nilfn], .func⟩:=by kernel_rfl
@[go_sem] theorem Xau:tyA Tryz.prog 166=some ⟨⟨1,false,8,[.nilfn], .func⟩,[],none,none⟩:=by kernel_rfl
@[go_sem] theorem Yxx:layOf Tryz.prog 167=some ⟨1,false,8,[.nilfn], .func⟩:=by kernel_rfl
@[go_sem] theorem Xb4:tyA Tryz.prog 167=some ⟨⟨1,false,8,[.nilfn], .func⟩,[],none,none⟩:=by kernel_rfl
@[go_sem] theorem Yvj:layOf Tryz.prog 168=some ⟨1,false,24,[.nils], .slice⟩:=by kernel_rfl
@[go_sem] theorem Xee:tyA Tryz.prog 168=some ⟨⟨1,false,24,[.nils], .slice⟩,[],some ⟨1,false,8,[.nilfn], .func⟩,none⟩:=by kernel_rfl
@[go_sem] theorem Yv5:layOf Tryz.prog 169=some ⟨1,false,24,[.nils], .slice⟩:=by kernel_rfl
@[go_sem] theorem Xey:tyA Tryz.prog 169=some ⟨⟨1,false,24,[.nils], .slice⟩,[],some ⟨1,false,24,[.nils], .slice⟩,none⟩:=by kernel_rfl
@[go_sem] theorem Yx6:layOf Tryz.prog 170=some ⟨1,false,8,[.nilfn], .func⟩:=by kernel_rfl
@[go_sem] theorem Xft:tyA Tryz.prog 170=some ⟨⟨1,false,8,[.nilfn], .func⟩,[],none,none⟩:=by kernel_rfl
@[go_sem] theorem Yxn:layOf Tryz.prog 171=some ⟨1,false,8,[.nilfn], .func⟩:=by kernel_rfl
@[go_sem] theorem Xc4:tyA Tryz.prog 171=some ⟨⟨1,false,8,[.nilfn], .func⟩,[],none,none⟩:=by kernel_rfl
@[go_sem] theorem Yw8:layOf Tryz.prog 172=some ⟨1,false,8,[.nilfn], .func⟩:=by kernel_rfl
@[go_sem] theorem Xak:tyA Tryz.prog 172=some ⟨⟨1,false,8,[.nilfn], .func⟩,[],none,none⟩:=by kernel_rfl
@[go_sem] theorem Yvq:layOf Tryz.prog 173=some ⟨1,false,8,[.nilfn], .func⟩:=by kernel_rfl
@[go_sem] theorem Xd3:tyA Tryz.prog 173=some ⟨⟨1,false,8,[.nilfn], .func⟩,[],none,none⟩:=by kernel_rfl
@[go_sem] theorem Yxj:layOf Tryz.prog 174=some ⟨1,false,8,[.nilfn], .func⟩:=by kernel_rfl
@[go_sem] theorem Xai:tyA Tryz.prog 174=some ⟨⟨1,false,8,[.nilfn], .func⟩,[],none,none⟩:=by kernel_rfl
@[go_sem] theorem Yy0:layOf Tryz.prog 175=some ⟨1,false,8,[.nilfn], .func⟩:=by kernel_rfl
@[go_sem] theorem Xez:tyA Tryz.prog 175=some ⟨⟨1,false,8,[.nilfn], .func⟩,[],none,none⟩:=by kernel_rfl
@[go_sem] theorem Yxa:layOf Tryz.prog 176=some ⟨1,false,8,[.nilfn], .func⟩:=by kernel_rfl
@[go_sem] theorem Xb1:tyA Tryz.prog 176=some ⟨⟨1,false,8,[.nilfn], .func⟩,[],none,none⟩:=by kernel_rfl
@[go_sem] theorem Yxq:layOf Tryz.prog 177=some ⟨1,false,8,[.nilfn], .func⟩:=by kernel_rfl
@[go_sem] theorem Xc7:tyA Tryz.prog 177=some ⟨⟨1,false,8,[.nilfn], .func⟩,[],none,none⟩:=by kernel_rfl
@[go_sem] theorem Yve:layOf Tryz.prog 178=some ⟨1,false,8,[.nilfn], .func⟩:=by kernel_rfl
@[go_sem] theorem Xc1:tyA Tryz.prog 178=some ⟨⟨1,false,8,[.nilfn], .func⟩,[],none,none⟩:=by kernel_rfl
@[go_sem] theorem Yx1:layOf Tryz.prog 179=some ⟨1,false,8,[.nilfn], .func⟩:=by kernel_rfl
@[go_sem] theorem Xf8:tyA Tryz.prog 179=some ⟨⟨1,false,8,[.nilfn], .func⟩,[],none,none⟩:=by kernel_rfl
@[go_sem] theorem Yxm:layOf Tryz.prog 180=some ⟨1,false,8,[.nilfn], .func⟩:=by kernel_rfl
@[go_sem] theorem Xbc:tyA Tryz.prog 180=some ⟨⟨1,false,8,[.nilfn], .func⟩,[],none,none⟩:=by kernel_rfl
@[go_sem] theorem Yw0:layOf Tryz.prog 181=some ⟨1,false,8,[.nilfn], .func⟩:=by kernel_rfl
@[go_sem] theorem Xa8:tyA Tryz.prog 181=some ⟨⟨1,false,8,[.nilfn], .func⟩,[],none,none⟩:=by kernel_rfl
@[go_sem] theorem Yxf:layOf Tryz.prog 182=some ⟨3,true,40,[.int .i64 0, .int .i64 0, .nils], .struct⟩:=by kernel_rfl
@[go_sem] theorem Xcl:tyA Tryz.prog 182=some ⟨⟨3,true,40,[.int .i64 0, .int .i64 0, .nils], .struct⟩,[(0,some ⟨1,false,8,[.int .i64 0],(.int .i64)⟩),(1,some ⟨2,true,32,[.int .i64 0, .nils], .struct⟩)],none,none⟩:=by kernel_rfl
@[go_sem] theorem Ywn:layOf Tryz.prog 183=some ⟨3,true,40,[.int .i64 0, .int .i64 0, .nils], .struct⟩:=by kernel_rfl
@[go_sem] theorem Xfu:tyA Tryz.prog 183=some ⟨⟨3,true,40,[.int .i64 0, .int .i64 0, .nils], .struct⟩,[(0,some ⟨1,false,8,[.int .i64 0],(.int .i64)⟩),(1,some ⟨2,true,32,[.int .i64 0, .nils], .struct⟩)],none,none⟩:=by kernel_rfl
@[go_sem] theorem Yyu:layOf Tryz.prog 184=some ⟨1,false,8,[.nilfn], .func⟩:=by kernel_rfl
@[go_sem] theorem Xfg:tyA Tryz.prog 184=some ⟨⟨1,false,8,[.nilfn], .func⟩,[],none,none⟩:=by kernel_rfl
@[go_sem] theorem Yyn:layOf Tryz.prog 185=some ⟨1,false,8,[.nilfn], .func⟩:=by kernel_rfl
@[go_sem] theorem Xbd:tyA Tryz.prog 185=some ⟨⟨1,false,8,[.nilfn], .func⟩,[],none,none⟩:=by kernel_rfl
@[go_sem] theorem Yz6:layOf Tryz.prog 186=some ⟨1,false,8,[.nilfn], .func⟩:=by kernel_rfl
@[go_sem] theorem Xcg:tyA Tryz.prog 186=some ⟨⟨1,false,8,[.nilfn], .func⟩,[],none,none⟩:=by kernel_rfl
@[go_sem] theorem Yyy:layOf Tryz.prog 187=some ⟨1,false,8,[.nilptr], .ptr⟩:=by kernel_rfl
@[go_sem] theorem Xbr:tyA Tryz.prog 187=some ⟨⟨1,false,8,[.nilptr], .ptr⟩,[],none,none⟩:=by kernel_rfl
@[go_sem] theorem Yyb:layOf Tryz.prog 188=some ⟨1,false,8,[.nilmap], .map⟩:=by kernel_rfl
@[go_sem] theorem Xcz:tyA Tryz.prog 188=some ⟨⟨1,false,8,[.nilmap], .map⟩,[],some ⟨1,false,8,[.int .i64 0],(.int .i64)⟩,some ⟨1,false,8,[.int .i64 0],(.int .i64)⟩⟩:=by kernel_rfl
@[go_sem] theorem Yyt:layOf Tryz.prog 189=some ⟨2,true,16,[.int .i64 0, .nilmap], .struct⟩:=by kernel_rfl
@[go_sem] theorem Xdq:tyA Tryz.prog 189=some ⟨⟨2,true,16,[.int .i64 0, .nilmap], .struct⟩,[(0,some ⟨1,false,8,[.int .i64 0],(.int .i64)⟩),(1,some ⟨1,false,8,[.nilmap], .map⟩)],none,none⟩:=by kernel_rfl
@[go_sem] theorem Ywh:layOf Tryz.prog 190=some ⟨2,true,16,[.int .i64 0, .nilmap], .struct⟩:=by kernel_rfl
@[go_sem] theorem Yzf:tyA Tryz.prog 190=some ⟨⟨2,true,16,[.int .i64 0, .nilmap], .struct⟩,[(0,some ⟨1,false,8,[.int .i64 0],(.int .i64)⟩),(1,some ⟨1,false,8,[.nilmap], .map⟩)],none,none⟩:=by kernel_rfl
@[go_sem] theorem Yvh:layOf Tryz.prog 191=some ⟨1,false,8,[.nilfn], .func⟩:=by kernel_rfl
@[go_sem] theorem Xd9:tyA Tryz.prog 191=some ⟨⟨1,false,8,[.nilfn], .func⟩,[],none,none⟩:=by kernel_rfl
@[go_sem] theorem Yz7:layOf Tryz.prog 192=some ⟨1,false,8,[.nilfn], .func⟩:=by kernel_rfl
@[go_sem] theorem Xfx:tyA Tryz.prog 192=some ⟨⟨1,false,8,[.nilfn], .func⟩,[],none,none⟩:=by kernel_rfl
@[go_sem] theorem Yxt:layOf Tryz.prog 193=some ⟨1,false,8,[.nilfn], .func⟩:=by kernel_rfl
@[go_sem] theorem Xas:tyA Tryz.prog 193=some ⟨⟨1,false,8,[.nilfn], .func⟩,[],none,none⟩:=by kernel_rfl
@[go_sem] theorem Yyi:layOf Tryz.prog 194=some ⟨3,true,40,[.int .i64 0, .nils, .int .i64 0], .struct⟩:=by kernel_rfl
@[go_sem] theorem Xaw:tyA Tryz.prog 194=some ⟨⟨3,true,40,[.int .i64 0, .nils, .int .i64 0], .struct⟩,[(0,some ⟨2,true,32,[.int .i64 0, .nils], .struct⟩),(2,some ⟨1,false,8,[.int .i64 0],(.int .i64)⟩)],none,none⟩:=by kernel_rfl
@[go_sem] theorem Yyw:layOf Tryz.prog 195=some ⟨3,true,40,[.int .i64 0, .nils, .int .i64 0], .struct⟩:=by kernel_rfl
@[go_sem] theorem Xat:tyA Tryz.prog 195=some ⟨⟨3,true,40,[.int .i64 0, .nils, .int .i64 0], .struct⟩,[(0,some ⟨2,true,32,[.int .i64 0, .nils], .struct⟩),(2,some ⟨1,false,8,[.int .i64 0],(.int .i64)⟩)],none,none⟩:=by kernel_rfl
@[go_sem] theorem Ywx:layOf Tryz.prog 196=some ⟨1,false,24,[.nils], .slice⟩:=by kernel_rfl
@[go_sem] theorem Xeb:tyA Tryz.prog 196=some ⟨⟨1,false,24,[.nils], .slice⟩,[],some ⟨3,true,40,[.int .i64 0, .nils, .int .i64 0], .struct⟩,none⟩:=by kernel_rfl
@[go_sem] theorem Yxp:layOf Tryz.prog 197=some ⟨1,false,8,[.nilfn], .func⟩:=by kernel_rfl
@[go_sem] theorem Xf6:tyA Tryz.prog 197=some ⟨⟨1,false,8,[.nilfn], .func⟩,[],none,none⟩:=by kernel_rfl
@[go_sem] theorem Yvx:layOf Tryz.prog 198=some ⟨1,false,8,[.nilfn], .func⟩:=by kernel_rfl
@[go_sem] theorem Yzs:tyA Tryz.prog 198=some ⟨⟨1,false,8,[.nilfn], .func⟩,[],none,none⟩:=by kernel_rfl
@[go_sem] theorem Ywo:layOf Tryz.prog 199=some ⟨1,false,8,[.nilfn], .func⟩:=by kernel_rfl
@[go_sem] theorem Yzy:tyA Tryz.prog 199=some ⟨⟨1,false,8,[.nilfn], .func⟩,[],none,none⟩:=by kernel_rfl
@[go_sem] theorem Yvr:layOf Tryz.prog 200=some ⟨1,false,8,[.nilfn], .func⟩:=by kernel_rfl
@[go_sem] theorem Xc9:tyA Tryz.prog 200=some ⟨⟨1,false,8,[.nilfn], .func⟩,[],none,none⟩:=by kernel_rfl
@[go_sem] theorem Yvf:layOf Tryz.prog 201=some ⟨1,false,8,[.nilfn], .func⟩:=by kernel_rfl
@[go_sem] theorem Xck:tyA Tryz.prog 201=some ⟨⟨1,false,8,[.nilfn], .func⟩,[],none,none⟩:=by kernel_rfl
@[go_sem] theorem Yyo:layOf Tryz.prog 202=some ⟨1,false,8,[.nilfn], .func⟩:=by kernel_rfl
@[go_sem] theorem Xfk:tyA Tryz.prog 202=some ⟨⟨1,false,8,[.nilfn], .func⟩,[],none,none⟩:=by kernel_rfl
@[go_sem] theorem Yyj:layOf Tryz.prog 203=some ⟨1,false,8,[.nilfn], .func⟩:=by kernel_rfl
@[go_sem] theorem Xab:tyA Tryz.prog 203=some ⟨⟨1,false,8,[.nilfn], .func⟩,[],none,none⟩:=by kernel_rfl
@[go_sem] theorem Yv9:layOf Tryz.prog 204=some ⟨1,false,8,[.nilfn], .func⟩:=by kernel_rfl
@[go_sem] theorem Xb8:tyA Tryz.prog 204=some ⟨⟨1,false,8,[.nilfn], .func⟩,[],none,none⟩:=by kernel_rfl
@[go_sem] theorem Yzc:layOf Tryz.prog 205=some ⟨1,false,8,[.nilfn], .func⟩:=by kernel_rfl
@[go_sem] theorem Xdt:tyA Tryz.prog 205=some ⟨⟨1,false,8,[.nilfn], .func⟩,[],none,none⟩:=by kernel_rfl
@[go_sem] theorem Yxg:layOf Tryz.prog 206=some ⟨1,false,8,[.nilfn], .func⟩:=by kernel_rfl
@[go_sem] theorem Xcx:tyA Tryz.prog 206=some ⟨⟨1,false,8,[.nilfn], .func⟩,[],none,none⟩:=by kernel_rfl
@[go_sem] theorem Yz8:layOf Tryz.prog 208=some ⟨1,false,8,[.nilfn], .func⟩:=by kernel_rfl
@[go_sem] theorem Xej:tyA Tryz.prog 208=some ⟨⟨1,false,8,[.nilfn], .func⟩,[],none,none⟩:=by kernel_rfl
@[go_sem] theorem Yw7:layOf Tryz.prog 210=some ⟨1,false,8,[.nilfn], .func⟩:=by kernel_rfl
@[go_sem] theorem Yzm:tyA Tryz.prog 210=some ⟨⟨1,false,8,[.nilfn], .func⟩,[],none,none⟩:=by kernel_rfl
@[go_sem] theorem Yvo:layOf Tryz.prog 211=some ⟨1,false,8,[.nilfn], .func⟩:=by kernel_rfl
@[go_sem] theorem Xe1:tyA Tryz.prog 211=some ⟨⟨1,false,8,[.nilfn], .func⟩,[],none,none⟩:=by kernel_rfl
@[go_sem] theorem Yvs:layOf Tryz.prog 212=some ⟨1,false,8,[.nilfn], .func⟩:=by kernel_rfl
@[go_sem] theorem Yzp:tyA Tryz.prog 212=some ⟨⟨1,false,8,[.nilfn], .func⟩,[],none,none⟩:=by kernel_rfl
@[go_sem] theorem Yw2:layOf Tryz.prog 213=some ⟨1,false,24,[.nils], .slice⟩:=by kernel_rfl
@[go_sem] theorem Xf4:tyA Tryz.prog 213=some ⟨⟨1,false,24,[.nils], .slice⟩,[],some ⟨1,false,1,[.bool false], .bool⟩,none⟩:=by kernel_rfl
@[go_sem] theorem Ywm:layOf Tryz.prog 214=some ⟨1,false,8,[.nilfn], .func⟩:=by kernel_rfl
@[go_sem] theorem Xeg:tyA Tryz.prog 214=some ⟨⟨1,false,8,[.nilfn], .func⟩,[],none,none⟩:=by kernel_rfl
@[go_sem] theorem Yzd:layOf Tryz.prog 215=some ⟨1,false,8,[.nilfn], .func⟩:=by kernel_rfl
@[go_sem] theorem Xem:tyA Tryz.prog 215=some ⟨⟨1,false,8,[.nilfn], .func⟩,[],none,none⟩:=by kernel_rfl
@[go_sem] theorem Yyc:layOf Tryz.prog 216=some ⟨1,false,8,[.nilfn], .func⟩:=by kernel_rfl
@[go_sem] theorem Xct:tyA Tryz.prog 216=some ⟨⟨1,false,8,[.nilfn], .func⟩,[],none,none⟩:=by kernel_rfl
@[go_sem] theorem Yyg:layOf Tryz.prog 217=some ⟨1,false,8,[.nilfn], .func⟩:=by kernel_rfl
@[go_sem] theorem Xd6:tyA Tryz.prog 217=some ⟨⟨1,false,8,[.nilfn], .func⟩,[],none,none⟩:=by kernel_rfl
@[go_sem] theorem Yx4:layOf Tryz.prog 218=some ⟨1,false,8,[.int .u64 0],(.int .u64)⟩:=by kernel_rfl
@[go_sem] theorem Xcn:tyA Tryz.prog 218=some ⟨⟨1,false,8,[.int .u64 0],(.int .u64)⟩,[],none,none⟩:=by kernel_rfl
@[go_sem] theorem Yxk:layOf Tryz.prog 219=some ⟨1,false,8,[.nilfn], .func⟩:=by kernel_rfl
@[go_sem] theorem Xf5:tyA Tryz.prog 219=some ⟨⟨1,false,8,[.nilfn], .func⟩,[],none,none⟩:=by kernel_rfl
@[go_sem] theorem Ywj:layOf Tryz.prog 220=some ⟨1,false,8,[.nilfn], .func⟩:=by kernel_rfl
@[go_sem] theorem Xdu:tyA Tryz.prog 220=some ⟨⟨1,false,8,[.nilfn], .func⟩,[],none,none⟩:=by kernel_rfl
@[go_sem] theorem Yx2:layOf Tryz.prog 221=some ⟨1,false,8,[.nilfn], .func⟩:=by kernel_rfl
@[go_sem] theorem Xcb:tyA Tryz.prog 221=some ⟨⟨1,false,8,[.nilfn], .func⟩,[],none,none⟩:=by kernel_rfl
@[go_sem] theorem Ywz:layOf Tryz.prog 222=some ⟨1,false,8,[.int .i64 0],(.int .i64)⟩:=by kernel_rfl
@[go_sem] theorem Xcw:tyA Tryz.prog 222=some ⟨⟨1,false,8,[.int .i64 0],(.int .i64)⟩,[],none,none⟩:=by kernel_rfl
@[go_sem] theorem Yxo:layOf Tryz.prog 224=some ⟨1,false,8,[.nilfn], .func⟩:=by kernel_rfl
@[go_sem] theorem Xb3:tyA Tryz.prog 224=some ⟨⟨1,false,8,[.nilfn], .func⟩,[],none,none⟩:=by kernel_rfl
@[go_sem] theorem Yvn:layOf Tryz.prog 225=some ⟨1,false,8,[.nilfn], .func⟩:=by kernel_rfl
@[go_sem] theorem Xdb:tyA Tryz.prog 225=some ⟨⟨1,false,8,[.nilfn], .func⟩,[],none,none⟩:=by kernel_rfl
@[go_sem] theorem Yy1:layOf Tryz.prog 226=some ⟨1,false,8,[.nilfn], .func⟩:=by kernel_rfl
@[go_sem] theorem Yzv:tyA Tryz.prog 226=some ⟨⟨1,false,8,[.nilfn], .func⟩,[],none,none⟩:=by kernel_rfl
@[go_sem] theorem Yxv:layOf Tryz.prog 227=some ⟨1,false,8,[.nilfn], .func⟩:=by kernel_rfl
@[go_sem] theorem Xe5:tyA Tryz.prog 227=some ⟨⟨1,false,8,[.nilfn], .func⟩,[],none,none⟩:=by kernel_rfl
@[go_sem] theorem Yz2:layOf Tryz.prog 229=some ⟨1,false,8,[.nilfn], .func⟩:=by kernel_rfl
@[go_sem] theorem Xa6:tyA Tryz.prog 229=some ⟨⟨1,false,8,[.nilfn], .func⟩,[],none,none⟩:=by kernel_rfl
@[go_sem] theorem Yv2:layOf Tryz.prog 230=some ⟨1,false,8,[.nilfn], .func⟩:=by kernel_rfl
@[go_sem] theorem Xe7:tyA Tryz.prog 230=some ⟨⟨1,false,8,[.nilfn], .func⟩,[],none,none⟩:=by kernel_rfl
@[go_sem] theorem Yx9:layOf Tryz.prog 231=some ⟨1,false,4,[.int .u32 0],(.int .u32)⟩:=by kernel_rfl
@[go_sem] theorem Xep:tyA Tryz.prog 231=some ⟨⟨1,false,4,[.int .u32 0],(.int .u32)⟩,[],none,none⟩:=by kernel_rfl
@[go_sem] theorem Yye:layOf Tryz.prog 232=some ⟨1,false,8,[.nilfn], .func⟩:=by kernel_rfl
@[go_sem] theorem Yzo:tyA Tryz.prog 232=some ⟨⟨1,false,8,[.nilfn], .func⟩,[],none,none⟩:=by kernel_rfl
@[go_sem] theorem Yyx:layOf Tryz.prog 233=some ⟨1,false,8,[.int .u64 0],(.int .u64)⟩:=by kernel_rfl
@[go_sem] theorem Xdj:tyA Tryz.prog 233=some ⟨⟨1,false,8,[.int .u64 0],(.int .u64)⟩,[],none,none⟩:=by kernel_rfl
@[go_sem] theorem Yy2:layOf Tryz.prog 234=some ⟨1,false,8,[.int .u64 0],(.int .u64)⟩:=by kernel_rfl
@[go_sem] theorem Xae:tyA Tryz.prog 234=some ⟨⟨1,false,8,[.int .u64 0],(.int .u64)⟩,[],none,none⟩:=by kernel_rfl
@[go_sem] theorem Yx3:layOf Tryz.prog 235=some ⟨1,false,8,[.nilfn], .func⟩:=by kernel_rfl
@[go_sem] theorem Xbf:tyA Tryz.prog 235=some ⟨⟨1,false,8,[.nilfn], .func⟩,[],none,none⟩:=by kernel_rfl
@[go_sem] theorem Yvv:layOf Tryz.prog 236=some ⟨1,false,8,[.nilfn], .func⟩:=by kernel_rfl
@[go_sem] theorem Xbq:tyA Tryz.prog 236=some ⟨⟨1,false,8,[.nilfn], .func⟩,[],none,none⟩:=by kernel_rfl
@[go_sem] theorem Yw3:layOf Tryz.prog 237=some ⟨1,false,8,[.nilfn], .func⟩:=by kernel_rfl
@[go_sem] theorem Xfi:tyA Tryz.prog 237=some ⟨⟨1,false,8,[.nilfn], .func⟩,[],none,none⟩:=by kernel_rfl
@[go_sem] theorem Ywy:layOf Tryz.prog 238=some ⟨1,false,8,[.nilptr], .ptr⟩:=by kernel_rfl
@[go_sem] theorem Xda:tyA Tryz.prog 238=some ⟨⟨1,false,8,[.nilptr], .ptr⟩,[],none,none⟩:=by kernel_rfl
@[go_sem] theorem Yza:layOf Tryz.prog 239=some ⟨1,false,8,[.nilfn], .func⟩:=by kernel_rfl
@[go_sem] theorem Xdc:tyA Tryz.prog 239=some ⟨⟨1,false,8,[.nilfn], .func⟩,[],none,none⟩:=by kernel_rfl
@[go_sem] theorem Yyr:layOf Tryz.prog 240=some ⟨1,false,8,[.nilptr], .ptr⟩:=by kernel_rfl
@[go_sem] theorem Xdx:tyA Tryz.prog 240=some ⟨⟨1,false,8,[.nilptr], .ptr⟩,[],none,none⟩:=by kernel_rfl
@[go_sem] theorem Yy9:layOf Tryz.prog 242=some ⟨1,false,8,[.nilfn], .func⟩:=by kernel_rfl
@[go_sem] theorem Xbu:tyA Tryz.prog 242=some ⟨⟨1,false,8,[.nilfn], .func⟩,[],none,none⟩:=by kernel_rfl
@[go_sem] theorem Yy3:layOf Tryz.prog 243=some ⟨1,false,8,[.nilfn], .func⟩:=by kernel_rfl
@[go_sem] theorem Xc2:tyA Tryz.prog 243=some ⟨⟨1,false,8,[.nilfn], .func⟩,[],none,none⟩:=by kernel_rfl
@[go_sem] theorem Ywr:layOf Tryz.prog 244=some ⟨4,true,40,[.nilptr, .nilptr, .nilptr, .str ⟨#[]⟩], .struct⟩:=by kernel_rfl
@[go_sem] theorem Xfc:tyA Tryz.prog 244=some ⟨⟨4,true,40,[.nilptr, .nilptr, .nilptr, .str ⟨#[]⟩], .struct⟩,[(0,some ⟨1,false,8,[.nilptr], .ptr⟩),(1,some ⟨1,false,8,[.nilptr], .ptr⟩),(2,some ⟨1,false,8,[.nilptr], .ptr⟩),(3,some ⟨1,false,16,[.str ⟨#[]⟩], .str⟩)],none,none⟩:=by kernel_rfl
@[go_sem] theorem Ywq:layOf Tryz.prog 245=some ⟨4,true,40,[.nilptr, .nilptr, .nilptr, .str ⟨#[]⟩], .struct⟩:=by kernel_rfl
@[go_sem] theorem Xfe:tyA Tryz.prog 245=some ⟨⟨4,true,40,[.nilptr, .nilptr, .nilptr, .str ⟨#[]⟩], .struct⟩,[(0,some ⟨1,false,8,[.nilptr], .ptr⟩),(1,some ⟨1,false,8,[.nilptr], .ptr⟩),(2,some ⟨1,false,8,[.nilptr], .ptr⟩),(3,some ⟨1,false,16,[.str ⟨#[]⟩], .str⟩)],none,none⟩:=by kernel_rfl
@[go_sem] theorem Yxu:layOf Tryz.prog 246=some ⟨0,true,0,[],(.array 0)⟩:=by kernel_rfl
@[go_sem] theorem Xch:tyA Tryz.prog 246=some ⟨⟨0,true,0,[],(.array 0)⟩,[],some ⟨1,false,8,[.nilptr], .ptr⟩,none⟩:=by kernel_rfl
@[go_sem] theorem Yxy:layOf Tryz.prog 247=some ⟨0,true,0,[], .struct⟩:=by kernel_rfl
@[go_sem] theorem Xdw:tyA Tryz.prog 247=some ⟨⟨0,true,0,[], .struct⟩,[(0,some ⟨0,true,0,[],(.array 0)⟩)],none,none⟩:=by kernel_rfl
@[go_sem] theorem Yvy:layOf Tryz.prog 248=some ⟨0,true,0,[], .struct⟩:=by kernel_rfl
@[go_sem] theorem Xcc:tyA Tryz.prog 248=some ⟨⟨0,true,0,[], .struct⟩,[(0,some ⟨0,true,0,[],(.array 0)⟩)],none,none⟩:=by kernel_rfl
@[go_sem] theorem Ywc:layOf Tryz.prog 249=some ⟨1,false,8,[.nilfn], .func⟩:=by kernel_rfl
@[go_sem] theorem Xde:tyA Tryz.prog 249=some ⟨⟨1,false,8,[.nilfn], .func⟩,[],none,none⟩:=by kernel_rfl
@[go_sem] theorem Yvz:layOf Tryz.prog 250=some ⟨1,false,1,[.int .u8 0],(.int .u8)⟩:=by kernel_rfl
@[go_sem] theorem Yzn:tyA Tryz.prog 250=some ⟨⟨1,false,1,[.int .u8 0],(.int .u8)⟩,[],none,none⟩:=by kernel_rfl
@[go_sem] theorem Yv7:layOf Tryz.prog 251=some ⟨1,false,1,[.int .u8 0],(.int .u8)⟩:=by kernel_rfl
@[go_sem] theorem Xet:tyA Tryz.prog 251=some ⟨⟨1,false,1,[.int .u8 0],(.int .u8)⟩,[],none,none⟩:=by kernel_rfl
@[go_sem] theorem Ywu:layOf Tryz.prog 252=some ⟨1,false,8,[.nilfn], .func⟩:=by kernel_rfl
@[go_sem] theorem Xef:tyA Tryz.prog 252=some ⟨⟨1,false,8,[.nilfn], .func⟩,[],none,none⟩:=by kernel_rfl
@[go_sem] theorem Yxl:layOf Tryz.prog 253=some ⟨1,false,8,[.nilptr], .ptr⟩:=by kernel_rfl
@[go_sem] theorem Xaz:tyA Tryz.prog 253=some ⟨⟨1,false,8,[.nilptr], .ptr⟩,[],none,none⟩:=by kernel_rfl
@[go_sem] theorem Yx0:layOf Tryz.prog 254=some ⟨1,false,4,[.int .i32 0],(.int .i32)⟩:=by kernel_rfl
@[go_sem] theorem Xar:tyA Tryz.prog 254=some ⟨⟨1,false,4,[.int .i32 0],(.int .i32)⟩,[],none,none⟩:=by kernel_rfl
@[go_sem] theorem Yyp:layOf Tryz.prog 255=some ⟨1,false,4,[.int .i32 0],(.int .i32)⟩:=by kernel_rfl
@[go_sem] theorem Xes:tyA Tryz.prog 255=some ⟨⟨1,false,4,[.int .i32 0],(.int .i32)⟩,[],none,none⟩:=by kernel_rfl
@[go_sem] theorem Yv8:layOf Tryz.prog 256=some ⟨11,true,48,[.int .u64 0, .int .u64 0, .int .u32 0, .int .u8 0, .int .u8 0, .int .u8 0, .int .u8 0, .nilfn, .nilptr, .int .i32 0, .int .i32 0], .struct⟩:=by kernel_rfl
@[go_sem] theorem Xdd:tyA Tryz.prog 256=some ⟨⟨11,true,48,[.int .u64 0, .int .u64 0, .int .u32 0, .int .u8 0, .int .u8 0, .int .u8 0, .int .u8 0, .nilfn, .nilptr, .int .i32 0, .int .i32 0], .struct⟩,[(0,some ⟨1,false,8,[.int .u64 0],(.int .u64)⟩),(1,some ⟨1,false,8,[.int .u64 0],(.int .u64)⟩),(2,some ⟨1,false,4,[.int .u32 0],(.int .u32)⟩),(3,some ⟨1,false,1,[.int .u8 0],(.int .u8)⟩),(4,some ⟨1,false,1,[.int .u8 0],(.int .u8)⟩),(5,some ⟨1,false,1,[.int .u8 0],(.int .u8)⟩),(6,some ⟨1,false,1,[.int .u8 0],(.int .u8)⟩),(7,some ⟨1,false,8,[.nilfn], .func⟩),(8,some ⟨1,false,8,[.nilptr], .ptr⟩),(9,some ⟨1,false,4,[.int .i32 0],(.int .i32)⟩),(10,some ⟨1,false,4,[.int .i32 0],(.int .i32)⟩)],none,none⟩:=by kernel_rfl
@[go_sem] theorem Yww:layOf Tryz.prog 257=some ⟨11,true,48,[.int .u64 0, .int .u64 0, .int .u32 0, .int .u8 0, .int .u8 0, .int .u8 0, .int .u8 0, .nilfn, .nilptr, .int .i32 0, .int .i32 0], .struct⟩:=by kernel_rfl
@[go_sem] theorem Xaj:tyA Tryz.prog 257=some ⟨⟨11,true,48,[.int .u64 0, .int .u64 0, .int .u32 0, .int .u8 0, .int .u8 0, .int .u8 0, .int .u8 0, .nilfn, .nilptr, .int .i32 0, .int .i32 0], .struct⟩,[(0,some ⟨1,false,8,[.int .u64 0],(.int .u64)⟩),(1,some ⟨1,false,8,[.int .u64 0],(.int .u64)⟩),(2,some ⟨1,false,4,[.int .u32 0],(.int .u32)⟩),(3,some ⟨1,false,1,[.int .u8 0],(.int .u8)⟩),(4,some ⟨1,false,1,[.int .u8 0],(.int .u8)⟩),(5,some ⟨1,false,1,[.int .u8 0],(.int .u8)⟩),(6,some ⟨1,false,1,[.int .u8 0],(.int .u8)⟩),(7,some ⟨1,false,8,[.nilfn], .func⟩),(8,some ⟨1,false,8,[.nilptr], .ptr⟩),(9,some ⟨1,false,4,[.int .i32 0],(.int .i32)⟩),(10,some ⟨1,false,4,[.int .i32 0],(.int .i32)⟩)],none,none⟩:=by kernel_rfl
@[go_sem] theorem Ywa:layOf Tryz.prog 258=some ⟨1,false,8,[.nilptr], .other⟩:=by kernel_rfl
@[go_sem] theorem Xb7:tyA Tryz.prog 258=some ⟨⟨1,false,8,[.nilptr], .other⟩,[],none,none⟩:=by kernel_rfl
inductive Tm where
 | mk (head:Int) (args:List Tm)
def Tm.head:Tm→Int | .mk h _=>h
def Tm.args:Tm→List Tm | .mk _ l=>l
mutual
def Tm.toA:Tm→AVal
 | .mk h ts=>.agg [.int .i64 h, .ps 2 (Tm.toAL ts)]
def Tm.toAL:List Tm→List AVal
 | []=>[]
 | t :: ts=>t.toA :: Tm.toAL ts
end
theorem Zyn:∀ ts,Tm.toAL ts=ts.map Tm.toA
 | []=>rfl
 | t :: ts=>by simp [Tm.toAL,Zyn ts]
theorem Za6 (t:Tm):t.toA = .agg [.int .i64 t.head, .ps 2 (t.args.map Tm.toA)]:=by cases t;simp [Tm.toA,Zyn,Tm.head,Tm.args]
theorem Za8 (t:Tm):t.toA.cells=[.int .i64 t.head, .ps 2 (t.args.map Tm.toA)]:=by rw [Za6];rfl
theorem Ydb (h:Int) (ts:List Tm):AVal.agg [.int .i64 h, .ps 2 (ts.map Tm.toA)]=(Tm.mk h ts).toA:=by rw [Za6];rfl
theorem Zby {α:Type} {n:Nat} {f : α→AVal}:∀ {l:List α},(∀ x∈l,(f x).low n)→lowL n (l.map f)
 | [],_=>trivial
 | a :: l,h=>⟨h a (by simp),Zby fun x hx=>h x (by simp [hx])⟩
mutual
theorem Zni:∀ t:Tm,t.toA.low 0
 | .mk h ts=>by simp only [Tm.toA,AVal.low,lowL,and_true,true_and];exact Zoj ts
theorem Zoj:∀ ts:List Tm,lowL 0 (Tm.toAL ts)
 | []=>trivial
 | t :: ts=>⟨Zni t,Zoj ts⟩
end
theorem Za7 {n:Nat} (t:Tm):t.toA.low n:=Zau (Nat.zero_le n) (Zni t)
theorem Za0 {n:Nat} (ts:List Tm):lowL n (ts.map Tm.toA):=Zby fun x _=>Za7 x
theorem Zaq {α:Type} {f : α→AVal} {l:List α} {i:Nat} (h:i<l.length):(l.map f).getD i .undef=f l[i]:=by simp [List.getD,h]
def ints (l:List Int):List AVal:=l.map (.int .i64)
theorem Zad (l:List Int):(ints l).length=l.length:=by simp [ints]
theorem Za4 {n:Nat}:∀ l:List Int,lowL n (ints l)
 | []=>trivial
 | _ :: l=>⟨trivial,Za4 l⟩
theorem Zbe {l:List Int} {i:Nat} (h:i<l.length):(ints l).getD i .undef = .int .i64 l[i]:=by simp [ints,List.getD,h]
theorem Zcy:ints []=[]:=rfl
theorem Zjl (l:List Int) (n:Int):ints l++[.int .i64 n]=ints (l++[n]):=by simp [ints]
theorem Zab {n:Int} (h : -9223372036854775808≤n∧n≤9223372036854775807):IntKind.i64.wrap n=n:=by rw [IntKind.wrap_i64];omega
def In64 (n:Int):Prop:=-9223372036854775808≤n∧n≤9223372036854775807
mutual
def Tm.size:Tm→Nat
 | .mk _ ts=>1+Tm.sizes ts
def Tm.sizes:List Tm→Nat
 | []=>0
 | t :: ts=>t.size+Tm.sizes ts
end
mutual
def Tm.depth:Tm→Nat
 | .mk _ ts=>Tm.depths ts+1
def Tm.depths:List Tm→Nat
 | []=>0
 | t :: ts=>max t.depth (Tm.depths ts)
end
theorem Zcq:∀ (ts:List Tm) (i:Nat) (hi:i<ts.length),Tm.sizes (ts.take (i+1))=Tm.sizes (ts.take i)+Tm.size ts[i]
 | t :: ts,0,_=>by simp [Tm.sizes]
 | t :: ts,i+1,hi=>by
  simp only [List.take_succ_cons,Tm.sizes,List.getElem_cons_succ]
  rw [Zcq ts i (by simpa using hi)];omega
theorem Zk5:∀ (ts:List Tm) (i:Nat) (hi:i<ts.length),Tm.depths (ts.take (i+1))=max (Tm.depths (ts.take i)) (Tm.depth ts[i])
 | t :: ts,0,_=>by simp [Tm.depths]
 | t :: ts,i+1,hi=>by
  simp only [List.take_succ_cons,Tm.depths,List.getElem_cons_succ]
  rw [Zk5 ts i (by simpa using hi)];omega
theorem Zb2:∀ (ts:List Tm) (i:Nat) (hi:i<ts.length),Tm.size ts[i]≤Tm.sizes ts
 | t :: ts,0,_=>by simp only [List.getElem_cons_zero,Tm.sizes];omega
 | t :: ts,i+1,hi=>by
  have:=Zb2 ts i (by simpa using hi)
  simp only [List.getElem_cons_succ,Tm.sizes];omega
theorem Zbw:∀ (ts:List Tm) (i:Nat),Tm.sizes (ts.take i)≤Tm.sizes ts
 | [],i=>by simp
 | t :: ts,0=>by simp [Tm.sizes]
 | t :: ts,i+1=>by have:=Zbw ts i;simp only [List.take_succ_cons,Tm.sizes];omega
theorem Zuj (t:Tm) : 1≤t.size:=by cases t;simp only [Tm.size];omega
theorem Zaj:∀ ts:List Tm,ts.length≤Tm.sizes ts
 | []=>by simp [Tm.sizes]
 | t :: ts=>by have:=Zaj ts;have:=Zuj t;simp only [List.length_cons,Tm.sizes];omega
mutual
theorem Zf3:∀ t:Tm,t.depth≤t.size
 | .mk _ ts=>by have:=Zdi ts;simp only [Tm.depth,Tm.size];omega
theorem Zdi:∀ ts:List Tm,Tm.depths ts≤Tm.sizes ts
 | []=>by simp [Tm.depths,Tm.sizes]
 | t :: ts=>by have:=Zf3 t;have:=Zdi ts;simp only [Tm.depths,Tm.sizes];omega
end
theorem Tm.rec_args {p:Tm→Prop} (h:∀ hd ts,(∀ (i:Nat) (hi:i<ts.length),p ts[i])→p (.mk hd ts)):∀ t,p t:=by
 have key:∀ n (t:Tm),t.size=n→p t:=by
  intro n
  induction n using Nat.strongRecOn with
  | _ n ih =>
   intro t ht
   match t,ht with
   | .mk hd ts,ht =>
    refine h hd ts fun i hi=>ih _ ?_ ts[i] rfl
    have:=Zb2 ts i hi
    simp only [Tm.size] at ht
    omega
 exact fun t=>key _ t rfl
mutual
def Tm.cnt:Tm→Int→Int
 | .mk _ ts,m=>Tm.cntL ts 1 m
def Tm.cntL:List Tm→Int→Int→Int
 | [],n,_=>n
 | t :: ts,n,m=>if n≤m then Tm.cntL ts (n+t.cnt (m - n)) m else n
end
mutual
theorem Zct:∀ (t:Tm) (m:Int),0≤m→1≤t.cnt m∧t.cnt m≤m+1
 | .mk _ ts,m,h=>by simp only [Tm.cnt];exact Zgk ts 1 m (by omega) (by omega)
theorem Zgk:∀ (ts:List Tm) (n m:Int),1≤n→n≤m+1→n≤Tm.cntL ts n m∧Tm.cntL ts n m≤m+1
 | [],n,m,h1,h2=>by simp only [Tm.cntL];omega
 | t :: ts,n,m,h1,h2=>by
  simp only [Tm.cntL]
  split
  ·have:=Zct t (m - n) (by omega)
   have:=Zgk ts (n+t.cnt (m - n)) m (by omega) (by omega)
   omega
  ·omega
end
mutual
theorem Zkg:∀ (t:Tm) (m:Int),0≤m→t.cnt m≤m→t.cnt m=t.size
 | .mk _ ts,m,h0,h=>by
  simp only [Tm.cnt] at h ⊢
  have:=Zll ts 1 m (by omega) (by omega) h
  simp only [Tm.size];omega
theorem Zll:∀ (ts:List Tm) (n m:Int),1≤n→n≤m+1→Tm.cntL ts n m≤m→Tm.cntL ts n m=n+Tm.sizes ts
 | [],n,m,_,_,_=>by simp [Tm.cntL,Tm.sizes]
 | t :: ts,n,m,h1,h2,h=>by
  simp only [Tm.cntL] at h ⊢
  split at h
  ·rename_i hn
   rw [if_pos hn]
   have hb:=Zct t (m - n) (by omega)
   have hb2:=Zgk ts (n+t.cnt (m - n)) m (by omega) (by omega)
   have h3:=Zll ts (n+t.cnt (m - n)) m (by omega) (by omega) h
   have h4:=Zkg t (m - n) (by omega) (by omega)
   simp only [Tm.sizes];omega
  ·omega
end
theorem Ydd (ts:List Tm) (n m:Int) (h:¬ n≤m):Tm.cntL ts n m=n:=by cases ts<;>simp [Tm.cntL,h]
mutual
def Tm.good:Tm→Bool
 | .mk h ts=>!(h<0&&decide (0<ts.length)||h < -256||decide (1023<h)||decide (8<ts.length))&&Tm.goods ts
def Tm.goods:List Tm→Bool
 | []=>true
 | t :: ts=>t.good&&Tm.goods ts
end
theorem Zfq:∀ (ts:List Tm) (i:Nat) (hi:i<ts.length),Tm.goods ts=(Tm.goods (ts.take i)&&(ts[i].good&&Tm.goods (ts.drop (i+1))))
 | t :: ts,0,_=>by simp [Tm.goods]
 | t :: ts,i+1,hi=>by
  simp only [List.take_succ_cons,Tm.goods,List.getElem_cons_succ,List.drop_succ_cons]
  rw [Zfq ts i (by simpa using hi)];simp [Bool.and_assoc]
theorem Zvj (ts:List Tm) (i:Nat) (hi:i<ts.length):Tm.goods (ts.take (i+1))=(Tm.goods (ts.take i)&&ts[i].good):=by
 have h:=Zfq (ts.take (i+1)) i (by simp;omega)
 rw [h,List.take_take,Nat.min_eq_left (by omega),List.getElem_take,List.drop_eq_nil_of_le (by rw [List.length_take];omega)]
 simp [Tm.goods]
def Tm.check (t:Tm):Int:=if 400<t.size then 2 else if 40<t.depth then 7 else if t.good then 0 else 1
def add1 (o:List Int) (v:Int):List Int:=if v∈o then o else o++[v]
def addNew (o l:List Int):List Int:=l.foldl add1 o
mutual
def Tm.vars:Tm→List Int
 | .mk h ts=>Tm.varsL ts (if h<0 then [-1 - h] else [])
def Tm.varsL:List Tm→List Int→List Int
 | [],o=>o
 | t :: ts,o=>Tm.varsL ts (addNew o t.vars)
end
theorem Zrl (o l:List Int) (i:Nat) (hi:i<l.length):addNew o (l.take (i+1))=add1 (addNew o (l.take i)) l[i]:=by
 simp only [addNew,List.take_add_one,List.getElem?_eq_getElem hi,Option.toList_some,List.foldl_append,List.foldl_cons,List.foldl_nil]
theorem Zv2 (o:List Int) (v:Int):(add1 o v).length≤o.length+1:=by unfold add1;split<;>simp
theorem Zi3:∀ (l o:List Int),(addNew o l).length≤o.length+l.length
 | [],o=>by simp [addNew]
 | v :: l,o=>by
  have h:addNew o (v :: l)=addNew (add1 o v) l:=rfl
  rw [h]
  have:=Zi3 l (add1 o v)
  have:=Zv2 o v
  simp only [List.length_cons];omega
theorem Zm4:∀ (ts:List Tm) (i:Nat) (hi:i<ts.length) (o:List Int),Tm.varsL (ts.take (i+1)) o=addNew (Tm.varsL (ts.take i) o) ts[i].vars
 | t :: ts,0,_,o=>by simp [Tm.varsL]
 | t :: ts,i+1,hi,o=>by
  simp only [List.take_succ_cons,Tm.varsL,List.getElem_cons_succ]
  exact Zm4 ts i (by simpa using hi) _
mutual
theorem Zj1:∀ t:Tm,t.vars.length≤t.size
 | .mk h ts=>by
  have:=Zf7 ts (if h<0 then [-1 - h] else [])
  have h2:(if h<0 then [-1 - h] else ([]:List Int)).length≤1:=by split<;>simp
  simp only [Tm.vars,Tm.size];omega
theorem Zf7:∀ (ts:List Tm) (o:List Int),(Tm.varsL ts o).length≤o.length+Tm.sizes ts
 | [],o=>by simp [Tm.varsL,Tm.sizes]
 | t :: ts,o=>by
  have h1:=Zf7 ts (addNew o t.vars)
  have h2:=Zi3 t.vars o
  have h3:=Zj1 t
  simp only [Tm.varsL,Tm.sizes];omega
end
def slA (b:Nat) (sz:Nat):List AVal→AVal
 | []=>.nils
 | x :: l=>.os b 0 (l.length+1) sz
def slB:List AVal→Option Blk
 | []=>none
 | x :: l=>some (.row (x :: l) 0)
mutual
def Tm.fit:Tm→Prop
 | .mk h ts=>In64 h∧Tm.fits ts
def Tm.fits:List Tm→Prop
 | []=>True
 | t :: ts=>t.fit∧Tm.fits ts
end
theorem Zit:∀ {ts:List Tm},Tm.fits ts→∀ (i:Nat) (hi:i<ts.length),ts[i].fit
 | t :: ts,h,0,_=>h.1
 | t :: ts,h,i+1,hi=>Zit h.2 i (by simpa using hi)
theorem Zff (n:Int) (l:List Int):ints (n :: l) = .int .i64 n :: ints l:=rfl
theorem Zcd (b sz:Nat):slA b sz [] = .nils:=rfl
theorem Zhc (b sz:Nat) (x:AVal) (l:List AVal):slA b sz (x :: l) = .os b 0 (l.length+1) sz:=rfl
theorem Zc7:slB []=none:=rfl
theorem Zg0 (x:AVal) (l:List AVal):slB (x :: l)=some (.row (x :: l) 0):=rfl
theorem Zfk {b n:Nat} (h:b<n) (sz:Nat):∀ l:List AVal,(slA b sz l).low n
 | []=>trivial
 | _ :: _=>h
theorem Zdo {n:Nat}:∀ l:List AVal,lowL n l→lowO n (slB l)
 | [],_=>trivial
 | _ :: _,h=>h
theorem Zkh {b sz:Nat} {l:List AVal} (h:l≠[]):slA b sz l = .os b 0 l.length sz:=by cases l;exact absurd rfl h;rfl
theorem Zij {l:List AVal} (h:l≠[]):slB l=some (.row l 0):=by cases l;exact absurd rfl h;rfl
theorem Zh0 (b sz:Nat) (l:List AVal) (x:AVal):slA b sz (l++[x]) = .os b 0 (l.length+1) sz:=by
 rw [Zkh (by simp)];simp
theorem Zh2 (l:List AVal) (x:AVal):slB (l++[x])=some (.row (l++[x]) 0):=Zij (by simp)
theorem Zex (l:List Int) (n:Int):ints (l++[n])=ints l++[.int .i64 n]:=(Zjl l n).symm
theorem Zej {F:Nat→Bool} {σ:Store} {b sz:Nat} {l:List AVal} (hF:F b=true) (h:getS σ b=slB l):pT F σ (.ps sz l) (slA b sz l)=True:=by
 cases l with
 | nil=>simp [slA,pT]
 | cons x l =>
  simp only [slA,Ys5,h,slB,Zlq,hF,List.drop_zero,List.length_cons]
  simp [Za1]
theorem Zu7 {σ:Store} {b:Nat} (h:getS σ b=none) : σ.set b none = σ:=by
 apply List.ext_getElem?
 intro c
 by_cases e:b=c
 ·subst e
  rw [List.getElem?_set_self']
  simp only [getS] at h
  cases hc : σ[b]? with
  | none=>rfl
  | some x=>rw [hc] at h;simp at h;subst h;rfl
 ·rw [List.getElem?_set_ne e]
open Classical in
theorem Ze3 {σ:Store} {nm b sz bs:Nat} {ag:Bool} {z:List AVal} {key:KA} {l:List AVal} {x:AVal} (h:getS σ b=slB l):appendA σ nm ⟨sz,ag,bs,z,key⟩ (slA b sz l) [x]=if appOk ⟨sz,ag,bs,z,key⟩ [x]∧l.length+1≤roomN bs then some (.os nm 0 (l.length+1) sz,setS (σ.set b none) nm (.row (l++[x]) 0)) else none:=by
 cases l with
 | nil =>
  have h0:getS σ b=none:=h
  rw [Zu7 h0]
  by_cases c:appOk ⟨sz,ag,bs,z,key⟩ [x]<;>simp [slA,Zme,c]
 | cons y l =>
  simp only [slA]
  rw [Yag,h]
  simp only [slB,Zgp,List.length_cons,List.length_nil,List.drop_zero]
  by_cases c:appOk ⟨sz,ag,bs,z,key⟩ [x]
  ·simp only [c,if_true,true_and,Nat.zero_add,Nat.le_refl,Nat.zero_le,Nat.sub_self]
   rw [List.take_of_length_le (by simp)]
  ·simp [c]
theorem Ze4 {b sz:Nat} {l xs:List AVal} (h:xs≠[]):slA b sz (l++xs) = .os b 0 (l.length+xs.length) sz:=by
 rw [Zkh (by simp [h])];simp
theorem Zdz {l xs:List AVal} (h:xs≠[]):slB (l++xs)=some (.row (l++xs) 0):=Zij (by simp [h])
open Classical in
theorem Zmd {σ:Store} {nm b sz bs:Nat} {ag:Bool} {z:List AVal} {key:KA} {l:List AVal} {x y:AVal} (h:getS σ b=slB l):appendA σ nm ⟨sz,ag,bs,z,key⟩ (slA b sz l) [x,y]=if appOk ⟨sz,ag,bs,z,key⟩ [x,y]∧l.length+2≤roomN bs then some (.os nm 0 (l.length+2) sz,setS (σ.set b none) nm (.row (l++[x,y]) 0)) else none:=by
 cases l with
 | nil =>
  have h0:getS σ b=none:=h
  rw [Zu7 h0]
  by_cases c:appOk ⟨sz,ag,bs,z,key⟩ [x,y]<;>simp [slA,Zme,c]
 | cons u l =>
  simp only [slA]
  rw [Yag,h]
  simp only [slB,Zgp,List.length_cons,List.length_nil,List.drop_zero]
  by_cases c:appOk ⟨sz,ag,bs,z,key⟩ [x,y]
  ·simp only [c,if_true,true_and,Nat.zero_add,Nat.le_refl,Nat.zero_le,Nat.sub_self]
   rw [List.take_of_length_le (by simp)]
  ·simp [c]
end Go.Proofs
namespace Go.Proofs
open Go Go.Abs
attribute [local go_sem] Nat.reduceAdd Nat.reduceSub Nat.reduceMul Nat.reduceLeDiff Nat.reduceEqDiff Nat.reduceBEq
theorem mixed:Tryz.prog.follows .mixedOrders=true:=by rfl
theorem Ymm (a b:List Int) (ha:a.length<2 ^ 62):CallEq Tryz.prog 15 [.ps 1 (ints a), .ps 1 (ints b)] (.bool (decide (a=b))):=by
 refine CallEq.begin (rs:=[.tmp 4]) (m:=24) 1000 Tryz.func15 rfl rfl rfl (by decide) trivial ?_
 simp only [go_sem,Zad]
 refine ⟨fun hne=>?_,fun heq=>?_⟩
 ·have:a≠b:=fun e=>hne (by rw [e])
  simp [this]
 have hlen:a.length=b.length:=by omega
 refine EvK.loopI (ι:={i:Nat // i≤a.length∧a.take i=b.take i}) 1000 (fun i=>mkT 26 [(0, .ps 1 (ints a)),(1, .ps 1 (ints b)),(5, .int .i64 i.1)]) (fun _=>[]) (fun i=>a.length - i.1) ⟨0,by simp⟩ ?_ (fun _=>Nat.zero_le _) ?_
 ·simp only [go_sem,Za4,Int.natCast_zero]
 ·rintro ⟨i,hi,hpre⟩
  simp only [go_sem,Zad]
  refine ⟨fun hlt=>?_,fun hge=>?_⟩
  ·have hla:i<a.length:=by omega
   have hlb:i<b.length:=by omega
   refine EvK.draw [] 0 0 mixed rfl rfl (Nat.le_refl _) ?_
   simp only [go_sem,padS,Zad,Int.toNat_natCast,Zbe hla,Zbe hlb]
   refine ⟨by omega,by omega,?_⟩
   refine EvK.go 1000 ?_
   simp only [go_sem]
   refine ⟨fun hne=>?_,fun heq=>?_⟩
   ·have:a≠b:=fun e=>hne (by subst e;rfl)
    refine EvK.go 1000 ?_
    simp only [go_sem]
    simp [this]
   ·refine ⟨⟨i+1,by omega,?_⟩,?_,by simp only;omega⟩
    ·rw [List.take_add_one,List.take_add_one,hpre,List.getElem?_eq_getElem hla,List.getElem?_eq_getElem hlb,heq]
    ·simp only [go_sem,Za4]
     rw [Zab (by omega)];rfl
  ·refine EvK.go 1000 ?_
   simp only [go_sem]
   have:i=a.length:=by omega
   subst this
   rw [List.take_length,hlen,List.take_length] at hpre
   simp [hpre]
theorem Zrg (t:Tm):t.size<2 ^ 62→CallEq Tryz.prog 137 [t.toA] (.int .i64 t.size):=by
 induction t using Tm.rec_args with
 | h h ts ih =>
 intro hs
 simp only [Tm.size] at hs
 have hlen:=Zaj ts
 refine CallEq.begin (rs:=[.tmp 2]) (m:=20) 1000 Tryz.func137 rfl rfl rfl (by decide) trivial ?_
 simp only [go_sem,Za6,Tm.head,Tm.args]
 refine EvK.loopI (ι:={i:Nat // i≤ts.length}) 1000 (fun i=>mkT 21 [(1, .ptr 0 0),(3, .int .i64 (1+Tm.sizes (ts.take i.1):Nat)),(4, .int .i64 i.1)]) (fun _=>[some (.var [.int .i64 h, .ps 2 (ts.map Tm.toA)])]) (fun i=>ts.length - i.1) ⟨0,by omega⟩ ?_ (fun _=>by simp) ?_
 ·simp only [go_sem,Tm.sizes,Za0,Int.natCast_zero,Nat.zero_lt_one]
  simp
 ·rintro ⟨i,hi⟩
  simp only [go_sem,List.length_map]
  refine ⟨fun hlt=>?_,fun hge=>?_⟩
  ·have hlt':i<ts.length:=by omega
   refine ⟨by omega,?_⟩
   simp only [go_sem,Int.toNat_natCast,Zaq hlt',Za8,Nat.le_refl]
   rw [← Za6]
   have hsz:=Zb2 ts i hlt'
   refine VCall.isoT [] (ih i hlt' (by omega)) (Za1 _ _ _) (by simp [go_sem,Za7]) ?_
   simp only [flatR,flatA,flatC,if_true]
   refine EvK.go 1000 ?_
   simp only [go_sem]
   refine ⟨⟨i+1,hlt'⟩,?_,by simp only;omega⟩
   simp only [go_sem,Za0,Nat.zero_lt_one]
   have h1:=Zcq ts i hlt'
   have h2:=Zbw ts (i+1)
   rw [Zab (by omega),Zab (by omega),h1]
   simp;omega
  ·refine EvK.go 1000 ?_
   simp only [go_sem,Tm.size]
   have:i=ts.length:=by omega
   subst this
   simp
theorem Yes (t:Tm):t.size<2 ^ 62→CallEq Tryz.prog 150 [t.toA] (.int .i64 t.depth):=by
 induction t using Tm.rec_args with
 | h h ts ih =>
 intro hs
 simp only [Tm.size] at hs
 have hlen:=Zaj ts
 refine CallEq.begin (rs:=[.tmp 2]) (m:=21) 1000 Tryz.func150 rfl rfl rfl (by decide) trivial ?_
 simp only [go_sem,Za6,Tm.head,Tm.args]
 refine EvK.loopI (ι:={i:Nat // i≤ts.length}) 1000 (fun i=>mkT 22 [(1, .ptr 0 0),(3, .int .i64 (Tm.depths (ts.take i.1):Nat)),(4, .int .i64 i.1)]) (fun _=>[some (.var [.int .i64 h, .ps 2 (ts.map Tm.toA)])]) (fun i=>ts.length - i.1) ⟨0,by omega⟩ ?_ (fun _=>by simp) ?_
 ·simp only [go_sem,Tm.depths,Za0,Int.natCast_zero,Nat.zero_lt_one]
 ·rintro ⟨i,hi⟩
  simp only [go_sem,List.length_map]
  refine ⟨fun hlt=>?_,fun hge=>?_⟩
  ·have hlt':i<ts.length:=by omega
   refine ⟨by omega,?_⟩
   simp only [go_sem,Int.toNat_natCast,Zaq hlt',Za8,Nat.le_refl]
   rw [← Za6]
   have hsz:=Zb2 ts i hlt'
   refine VCall.isoT [] (ih i hlt' (by omega)) (Za1 _ _ _) (by simp [go_sem,Za7]) ?_
   simp only [flatR,flatA,flatC,if_true]
   refine EvK.go 1000 ?_
   simp only [go_sem]
   refine ⟨⟨i+1,hlt'⟩,?_,by simp only;omega⟩
   simp only [go_sem,Za0,Nat.zero_lt_one]
   have h1:=Zk5 ts i hlt'
   rw [Zab (by omega),h1]
   refine ⟨?_,rfl⟩
   congr 1
   split<;>omega
  ·refine EvK.go 1000 ?_
   simp only [go_sem,Tm.depth]
   have:i=ts.length:=by omega
   subst this
   have:=Zdi ts
   rw [List.take_length,Zab (by omega)]
   simp
theorem Ytq (n:Int) (l:List Int) (hl:l.length<2 ^ 62):CallEq Tryz.prog 114 [.int .i64 n, .ps 1 (ints l)] (.bool (decide (n∈l))):=by
 refine CallEq.begin (rs:=[.tmp 4]) (m:=16) 1000 Tryz.func114 rfl rfl rfl (by decide) trivial ?_
 simp only [go_sem]
 refine EvK.loopI (ι:={i:Nat // i≤l.length∧n ∉ l.take i}) 1000 (fun i=>mkT 18 [(0, .int .i64 n),(1, .ps 1 (ints l)),(5, .int .i64 i.1)]) (fun _=>[]) (fun i=>l.length - i.1) ⟨0,by simp⟩ ?_ (fun _=>Nat.zero_le _) ?_
 ·simp only [go_sem,Za4,Int.natCast_zero]
 ·rintro ⟨i,hi,hpre⟩
  simp only [go_sem,Zad]
  refine ⟨fun hlt=>?_,fun hge=>?_⟩
  ·have hla:i<l.length:=by omega
   simp only [go_sem,Int.toNat_natCast,Zbe hla]
   refine ⟨by omega,fun he=>?_,fun hne=>?_⟩
   ·refine EvK.go 1000 ?_
    simp only [go_sem]
    have:n∈l:=he ▸ List.getElem_mem hla
    simp [this]
   ·refine ⟨⟨i+1,by omega,?_⟩,?_,by simp only;omega⟩
    ·rw [List.take_add_one,List.getElem?_eq_getElem hla]
     simp only [Option.toList_some,List.mem_append,List.mem_singleton,not_or]
     exact ⟨hpre,fun e=>hne e.symm⟩
    ·simp only [go_sem,Za4]
     rw [Zab (by omega)];rfl
  ·refine EvK.go 1000 ?_
   simp only [go_sem]
   have:i=l.length:=by omega
   subst this
   rw [List.take_length] at hpre
   simp [hpre]
theorem Zuf (t:Tm):∀ m:Int,0≤m→m<2 ^ 62→CallEq Tryz.prog 50 [t.toA, .int .i64 m] (.int .i64 (t.cnt m)):=by
 induction t using Tm.rec_args with
 | h h ts ih =>
 intro m hm0 hm1
 refine CallEq.begin (rs:=[.tmp 4]) (m:=29) 1000 Tryz.func50 rfl rfl rfl (by decide) trivial ?_
 simp only [go_sem,Za6,Tm.head,Tm.args]
 refine EvK.loopI (ι:={p:Nat×Int // p.1≤ts.length∧1≤p.2∧p.2≤m+1∧p.1≤p.2∧Tm.cntL (ts.drop p.1) p.2 m=Tm.cntL ts 1 m}) 1000 (fun p=>mkT 31 [(1, .int .i64 m),(2, .ptr 0 0),(5, .int .i64 p.1.2),(6, .int .i64 p.1.1)]) (fun _=>[some (.var [.int .i64 h, .ps 2 (ts.map Tm.toA)])]) (fun p=>ts.length - p.1.1) ⟨(0,1),by simp;omega⟩ ?_ (fun _=>by simp) ?_
 ·simp only [go_sem,Za0,Int.natCast_zero,Nat.zero_lt_one]
 ·rintro ⟨⟨i,n⟩,hi,h1,h2,h4,h3⟩
  simp only at hi h1 h2 h3 h4
  by_cases hlt:(i:Int)<ts.length
  ·have hlt':i<ts.length:=by omega
   by_cases hn:n≤m
   ·simp only [go_sem,List.length_map,hlt,hn]
    refine ⟨by omega,?_⟩
    simp only [go_sem,Int.toNat_natCast,Zaq hlt',Za8,Nat.le_refl]
    rw [← Za6,Zab (by omega)]
    refine VCall.isoT [] (ih i hlt' (m - n) (by omega) (by omega)) (Za1 _ _ _) (by simp [go_sem,Za7]) ?_
    simp only [flatR,flatA,flatC,if_true]
    refine EvK.go 1000 ?_
    simp only [go_sem]
    have hb:=Zct ts[i] (m - n) (by omega)
    refine ⟨⟨(i+1,n+ts[i].cnt (m - n)),hlt',by omega,by omega,by simp only;omega,?_⟩,?_,by simp only;omega⟩
    ·simp only
     rw [← h3,List.drop_eq_getElem_cons hlt',Tm.cntL,if_pos hn]
    ·simp only [go_sem,Za0,Nat.zero_lt_one]
     rw [Zab (by omega),Zab (by omega)]
     simp
   ·simp only [go_sem,List.length_map,hlt,hn]
    refine EvK.go 1000 ?_
    simp only [go_sem]
    rw [Tm.cnt,← h3,Ydd _ _ _ hn]
  ·simp only [go_sem,List.length_map,hlt]
   refine EvK.go 1000 ?_
   simp only [go_sem]
   have:i=ts.length:=by omega
   subst this
   rw [Tm.cnt,← h3,List.drop_length,Tm.cntL]
theorem Yj5 (t:Tm):t.size<2 ^ 62→CallEq Tryz.prog 151 [t.toA] (.bool t.good):=by
 induction t using Tm.rec_args with
 | h h ts ih =>
 intro hs
 simp only [Tm.size] at hs
 have hlen:=Zaj ts
 refine CallEq.begin (rs:=[.tmp 2]) (m:=42) 1000 Tryz.func151 rfl rfl rfl (by decide) trivial ?_
 have rest:¬ (h<0∧(0:Int)<ts.length)→¬ h < -256→¬ 1023<h→¬ (8:Int)<ts.length→Tm.good (.mk h ts)=Tm.goods ts:=fun h1 h2 h3 h4=>by
  simp only [Tm.good]
  have e1:(decide (h<0)&&decide (0<ts.length))=false:=by simp only [Bool.and_eq_false_iff,decide_eq_false_iff_not];omega
  have e2:decide (8<ts.length)=false:=by simp only [decide_eq_false_iff_not];omega
  simp [e1,e2,h2,h3]
 have bad:(h<0∧(0:Int)<ts.length)∨h < -256∨1023<h∨(8:Int)<ts.length→Tm.good (.mk h ts)=false:=fun hb=>by
  simp only [Tm.good,Bool.and_eq_false_iff,Bool.not_eq_false',Bool.or_eq_true,Bool.and_eq_true,decide_eq_true_eq]
  left;omega
 by_cases c1:h<0∧(0:Int)<ts.length
 ·simp only [go_sem,Za6,Tm.head,Tm.args,List.length_map,c1.1,c1.2,bad (.inl c1)]
 by_cases c2:h < -256
 ·have c3:h<0:=by omega
  have c4:¬ (0:Int)<ts.length:=by omega
  simp only [go_sem,Za6,Tm.head,Tm.args,List.length_map,c2,c3,c4,bad (.inr (.inl c2))]
 by_cases c3 : 1023<h
 ·have c4:¬ h<0:=by omega
  simp only [go_sem,Za6,Tm.head,Tm.args,List.length_map,c2,c3,c4,bad (.inr (.inr (.inl c3)))]
 by_cases c4:(8:Int)<ts.length
 ·have c5:¬ h<0:=by omega
  simp only [go_sem,Za6,Tm.head,Tm.args,List.length_map,c2,c3,c4,c5,bad (.inr (.inr (.inr c4)))]
 have hg:=rest c1 c2 c3 c4
 rw [hg]
 have c56:(h<0∧¬ (0:Int)<ts.length)∨¬ h<0:=by omega
 rcases c56 with ⟨c5,c6⟩ | c5
 case' inl=>simp only [go_sem,Za6,Tm.head,Tm.args,List.length_map,c2,c3,c4,c5,c6]
 case' inr=>simp only [go_sem,Za6,Tm.head,Tm.args,List.length_map,c2,c3,c4,c5]
 all_goals
  refine EvK.loopI (ι:={i:Nat // i≤ts.length∧Tm.goods (ts.take i)=true}) 1000 (fun i=>mkT 43 [(1, .ptr 0 0),(3, .int .i64 i.1)]) (fun _=>[some (.var [.int .i64 h, .ps 2 (ts.map Tm.toA)])]) (fun i=>ts.length - i.1) ⟨0,by simp [Tm.goods]⟩ ?_ (fun _=>by simp) ?_
  ·simp only [go_sem,Za0,Int.natCast_zero,Nat.zero_lt_one]
  ·rintro ⟨i,hi,hgi⟩
   simp only [go_sem,List.length_map]
   refine ⟨fun hlt=>?_,fun hge=>?_⟩
   ·have hlt':i<ts.length:=by omega
    refine ⟨by omega,?_⟩
    simp only [go_sem,Int.toNat_natCast,Zaq hlt',Za8,Nat.le_refl]
    rw [← Za6]
    have hsz:=Zb2 ts i hlt'
    refine VCall.isoT [] (ih i hlt' (by omega)) (Za1 _ _ _) (by simp [go_sem,Za7]) ?_
    simp only [flatR,flatA,flatC,if_true]
    refine EvK.go 1000 ?_
    have h1:=Zvj ts i hlt'
    cases hgd:ts[i].good with
    | true =>
     simp only [go_sem]
     refine ⟨⟨i+1,hlt',by rw [h1,hgi,hgd];rfl⟩,?_,by simp only;omega⟩
     simp only [go_sem,Za0,Nat.zero_lt_one]
     rw [Zab (by omega)];simp
    | false =>
     simp only [go_sem]
     refine EvK.go 1000 ?_
     simp only [go_sem]
     have h2:=Zfq ts i hlt'
     rw [h2,hgd];simp
   ·refine EvK.go 1000 ?_
    simp only [go_sem]
    have:i=ts.length:=by omega
    subst this
    rw [List.take_length] at hgi
    rw [hgi]
theorem Ygw (t:Tm) (hs:t.size<2 ^ 62):CallEq Tryz.prog 111 [t.toA] (.int .i64 t.check):=by
 have hd:=Zf3 t
 refine CallEq.begin (rs:=[.tmp 2]) (m:=11) 1000 Tryz.func111 rfl rfl rfl (by decide) trivial ?_
 simp only [go_sem,Za6,Nat.le_refl]
 rw [← Za6]
 refine VCall.isoT [] (Zrg t hs) (Za1 _ _ _) (by simp [go_sem,Za7]) ?_
 simp only [flatR,flatA,flatC,if_true]
 refine EvK.go 1000 ?_
 by_cases c1:(400:Int)<t.size
 ·simp only [go_sem,c1,Tm.check]
  rw [if_pos (by omega)]
 simp only [go_sem,c1,Nat.le_refl]
 rw [← Za6]
 refine VCall.isoT [] (Yes t hs) (Za1 _ _ _) (by simp [go_sem,Za7]) ?_
 simp only [flatR,flatA,flatC,if_true]
 refine EvK.go 1000 ?_
 by_cases c2:(40:Int)<t.depth
 ·simp only [go_sem,c2,Tm.check]
  rw [if_neg (by omega),if_pos (by omega)]
 simp only [go_sem,c2,Nat.le_refl]
 rw [← Za6]
 refine VCall.isoT [] (Yj5 t hs) (Za1 _ _ _) (by simp [go_sem,Za7]) ?_
 simp only [flatR,flatA,flatC,if_true]
 refine EvK.go 1000 ?_
 cases c3:t.good <;>
 ·simp only [go_sem,Tm.check]
  rw [if_neg (by omega),if_neg (by omega),c3];rfl
theorem Yj1 (t:Tm):t.fit→t.size<1000000000→CallEq Tryz.prog 76 [t.toA] (.ps 1 (ints t.vars)):=by
 induction t using Tm.rec_args with
 | h h ts ih =>
 intro hf hs
 simp only [Tm.size] at hs
 obtain ⟨hfh,hfs⟩:=hf
 have hlen:=Zaj ts
 refine CallEq.begin (rs:=[.tmp 2]) (m:=49) 1000 Tryz.func76 rfl rfl rfl (by decide) (by simp only [go_sem,Za4]) ?_
 simp only [go_sem,Za6,Tm.head,Tm.args]
 obtain ⟨o0,ho0⟩:∃ o0,(if h<0 then [-1 - h] else ([]:List Int))=o0:=⟨_,rfl⟩
 have hvars:Tm.vars (.mk h ts)=Tm.varsL ts o0:=by rw [Tm.vars,ho0]
 have ho0l:o0.length≤1:=by rw [← ho0];split<;>simp
 have hol:∀ i,(Tm.varsL (ts.take i) o0).length≤1+Tm.sizes (ts.take i):=fun i=>by
  have:=Zf7 (ts.take i) o0
  omega
 have c1:h<0∨¬ h<0:=by omega
 rcases c1 with c1 | c1
 case' inl =>
  rw [if_pos c1] at ho0
  have hw:IntKind.i64.wrap (-1 - h) = -1 - h:=Zab (by unfold In64 at hfh;omega)
  simp only [go_sem,c1,appOk,List.mem_singleton,forall_eq,Nat.zero_lt_one,Nat.le_refl,hw]
  refine EvK.loopR (ι:={i:Nat // i≤ts.length}) 1000 (fun i=>mkT 50 [(1, .ptr 0 0),(3,slA 1 1 (ints (Tm.varsL (ts.take i.1) o0))),(4, .int .i64 i.1)]) (fun i=>[some (.var [.int .i64 h, .ps 2 (ts.map Tm.toA)]),slB (ints (Tm.varsL (ts.take i.1) o0))]) (fun i=>ts.length - i.1) ⟨0,by omega⟩ [(1,2),(2,1)] ?_ (fun _=>by simp) ?_
 case' inr =>
  rw [if_neg c1] at ho0
  simp only [go_sem,c1]
  refine EvK.loopR (ι:={i:Nat // i≤ts.length}) 1000 (fun i=>mkT 50 [(1, .ptr 0 0),(3,slA 1 1 (ints (Tm.varsL (ts.take i.1) o0))),(4, .int .i64 i.1)]) (fun i=>[some (.var [.int .i64 h, .ps 2 (ts.map Tm.toA)]),slB (ints (Tm.varsL (ts.take i.1) o0))]) (fun i=>ts.length - i.1) ⟨0,by omega⟩ [] ?_ (fun _=>by simp) ?_
 case inl.refine_1 =>
  subst ho0
  refine Zb0 rfl ?_
  simp only [go_sem,Tm.varsL,Zff,Zcy,Zhc,Zg0,Za0,Za2,Int.natCast_zero,Nat.zero_lt_two,Nat.one_lt_two]
 case inr.refine_1 =>
  subst ho0
  refine Zb0 rfl ?_
  simp only [go_sem,Tm.varsL,Zff,Zcy,Zcd,Zc7,Za0,Za2,Int.natCast_zero,Nat.zero_lt_two]
 all_goals
  rintro ⟨i,hi⟩
  have hbound:=hol i
  generalize hoi:Tm.varsL (ts.take i) o0=o at hbound
  simp only [go_sem,List.length_map,hoi]
  refine ⟨fun hlt=>?_,fun hge=>?_⟩
  ·have hlt':i<ts.length:=by omega
   refine ⟨by omega,?_⟩
   simp only [go_sem,Int.toNat_natCast,Zaq hlt',Za8,Nat.le_refl]
   rw [← Za6]
   have hsz:=Zb2 ts i hlt'
   have hsn:=Zcq ts i hlt'
   have hst:=Zbw ts (i+1)
   have hvl:=Zj1 ts[i]
   refine VCall.isoT [] (ih i hlt' (Zit hfs i hlt') (by omega)) (Za1 _ _ _) (by simp [go_sem,Za7]) ?_
   rw [Zah]
   simp only [ite_self]
   refine EvK.go 1000 ?_
   generalize hl:ts[i].vars=l at *
   simp only [go_sem]
   refine EvK.loopR (ι:={j:Nat // j≤l.length}) 1000 (fun j=>mkT 50 [(1, .ptr 0 0),(3,slA 1 1 (ints (addNew o (l.take j.1)))),(4, .int .i64 i),(5, .ps 1 (ints l)),(6, .int .i64 j.1)]) (fun j=>[some (.var [.int .i64 h, .ps 2 (ts.map Tm.toA)]),slB (ints (addNew o (l.take j.1)))]) (fun j=>l.length - j.1) ⟨0,by omega⟩ [] ?_ (fun _=>by simp) ?_
   ·refine Zb0 rfl ?_
    have e0:addNew o []=o:=rfl
    cases o with
    | nil=>simp only [go_sem,e0,Zcy,Zcd,Zc7,Za0,Za4,Za2,Int.natCast_zero,Nat.zero_lt_two]
    | cons x o'=>simp only [go_sem,e0,Zff,Zhc,Zg0,Za0,Za4,Za2,Int.natCast_zero,Nat.zero_lt_two,Nat.one_lt_two]
   ·rintro ⟨j,hj⟩
    have hol2:=Zi3 (l.take j) o
    have hlj:(l.take j).length≤l.length:=by rw [List.length_take];omega
    generalize hq:addNew o (l.take j)=q at *
    simp only [go_sem,Zad]
    refine ⟨fun hjl=>?_,fun hjg=>?_⟩
    ·have hjl':j<l.length:=by omega
     have hstep:=Zrl o l j hjl'
     rw [hq] at hstep
     simp only [go_sem,Int.toNat_natCast,Zbe hjl',hq]
     refine ⟨by omega,?_⟩
     have hin:=Ytq l[j] q (by omega)
     refine VCall.isoT [1] hin ?_ (by simp only [go_sem,Za4]) ?_
     ·simp only [go_sem,Zb1,Zba,Zej]
     simp only [flatR,flatA,flatC,if_true]
     refine EvK.go 1000 ?_
     unfold add1 at hstep
     by_cases hm:l[j]∈q
     ·rw [if_pos hm] at hstep
      simp only [go_sem,hm]
      refine ⟨⟨j+1,by omega⟩,[],Zb0 rfl ?_,by simp only;omega⟩
      simp only [hstep]
      rw [Zab (by omega)]
      have l1:=Zfk (b:=1) (n:=2) (by omega) 1 (ints q)
      have l2:=Zdo (n:=2) (ints q) (Za4 q)
      cases q with
      | nil=>simp only [go_sem,Zcd,Zc7,Zcy,Za0,Za4,Za2,Nat.zero_lt_two,Int.natCast_add,Int.natCast_one]
      | cons x q'=>simp only [go_sem,Zhc,Zg0,Zff,Za0,Za4,Za2,Nat.zero_lt_two,Nat.one_lt_two,Int.natCast_add,Int.natCast_one]
     ·rw [if_neg hm] at hstep
      simp only [go_sem,hm,Zad,Int.toNat_natCast,Zbe hjl',Ze3,appOk,List.mem_singleton,forall_eq,Nat.zero_lt_one,Nat.le_refl]
      refine ⟨by omega,by omega,?_⟩
      refine ⟨⟨j+1,by omega⟩,[(1,3),(3,1)],Zb0 rfl ?_,by simp only;omega⟩
      simp only [hstep]
      rw [Zab (by omega)]
      simp only [go_sem,Zex,Zh0,Zh2,Zad,Za0,Za4,Za2,Nat.zero_lt_two,Nat.one_lt_two,Int.natCast_add,Int.natCast_one]
      rw [Zjl,Za2 (Za4 _)]
      exact ⟨rfl,Za4 _⟩
    ·have:j=l.length:=by omega
     subst this
     rw [List.take_length] at hq
     have hs1:=Zm4 ts i hlt' o0
     rw [hoi,hl,hq] at hs1
     refine EvK.go 1000 ?_
     simp only [go_sem]
     refine ⟨⟨i+1,by omega⟩,[],Zb0 rfl ?_,by simp only;omega⟩
     simp only [hs1]
     rw [Zab (by omega)]
     cases q with
     | nil=>simp only [go_sem,Zcd,Zc7,Zcy,Za0,Za4,Za2,Nat.zero_lt_two,Int.natCast_add,Int.natCast_one]
     | cons x q'=>simp only [go_sem,Zhc,Zg0,Zff,Za0,Za4,Za2,Nat.zero_lt_two,Nat.one_lt_two,Int.natCast_add,Int.natCast_one]
  ·refine EvK.go 1000 ?_
   have:i=ts.length:=by omega
   subst this
   rw [List.take_length] at hoi
   simp only [go_sem,hvars,hoi,Zej]
end Go.Proofs
namespace Go.Proofs
open Go Go.Abs
structure Sy where
 name:ByteArray
 arity:Int
 weight:Int
 truth:Bool
def Sy.toA (s:Sy):AVal:=.agg [.str s.name, .int .i64 s.arity, .int .i64 s.weight, .bool s.truth]
theorem Zaz (s:Sy):s.toA.cells=[.str s.name, .int .i64 s.arity, .int .i64 s.weight, .bool s.truth]:=rfl
theorem Yuj (s:Sy):s.toA = .agg [.str s.name, .int .i64 s.arity, .int .i64 s.weight, .bool s.truth]:=rfl
def syms (g:List Sy):List AVal:=g.map Sy.toA
theorem Zal (g:List Sy):(syms g).length=g.length:=by simp [syms]
theorem Za5 {n:Nat} (g:List Sy):lowL n (syms g):=Zby fun _ _=>⟨trivial,trivial,trivial,trivial,trivial⟩
theorem Zb6 {g:List Sy} {i:Nat} (h:i<g.length):(syms g).getD i .undef=g[i].toA:=Zaq h
structure Li where
 neg:Bool
 l:Tm
 r:Tm
def Li.cs (c:Li):List AVal:=[.bool c.neg, .int .i64 c.l.head, .ps 2 (c.l.args.map Tm.toA), .int .i64 c.r.head, .ps 2 (c.r.args.map Tm.toA)]
def Li.toA (c:Li):AVal:=.agg c.cs
theorem Zaw (c:Li):c.toA.cells=[.bool c.neg, .int .i64 c.l.head, .ps 2 (c.l.args.map Tm.toA), .int .i64 c.r.head, .ps 2 (c.r.args.map Tm.toA)]:=rfl
def lits (c:List Li):List AVal:=c.map Li.toA
theorem Zaf (c:List Li):(lits c).length=c.length:=by simp [lits]
theorem Zcp {n:Nat} (c:Li):c.toA.low n:=⟨trivial,trivial,Za0 _,trivial,Za0 _,trivial⟩
theorem Za3 {n:Nat} (c:List Li):lowL n (lits c):=Zby fun x _=>Zcp x
theorem Zc6 {c:List Li} {i:Nat} (h:i<c.length):(lits c).getD i .undef=c[i].toA:=Zaq h
structure Wo where
 size:Int
 rows:List (List Int)
def rowsA (l:List (List Int)):List AVal:=l.map fun r=>.ps 1 (ints r)
def Wo.toA (w:Wo):AVal:=.agg [.int .i64 w.size, .ps 1 (rowsA w.rows)]
theorem Zee (w:Wo):w.toA = .agg [.int .i64 w.size, .ps 1 (rowsA w.rows)]:=rfl
theorem Zbh (l:List (List Int)):(rowsA l).length=l.length:=by simp [rowsA]
theorem Zb5 {n:Nat} (l:List (List Int)):lowL n (rowsA l):=Zby fun _ _=>Za4 _
theorem Zh9 {l:List (List Int)} {i:Nat} (h:i<l.length):(rowsA l).getD i .undef = .ps 1 (ints l[i]):=Zaq h
theorem Zeo {n:Nat} (w:Wo):w.toA.low n:=⟨trivial,Zb5 _,trivial⟩
def sides (c:List Li):List Tm:=c.flatMap fun l=>[l.l,l.r]
theorem Zlf (c:List Li) (i:Nat) (h:i<c.length):sides (c.take (i+1))=sides (c.take i)++[c[i].l,c[i].r]:=by
 simp only [sides,List.take_add_one,List.getElem?_eq_getElem h,Option.toList_some,List.flatMap_append,List.flatMap_cons,List.flatMap_nil,List.append_nil]
theorem Zh4 (c:List Li):(sides c).length=2*c.length:=by
 induction c with
 | nil=>rfl
 | cons a c ih=>simp [sides] at ih ⊢;omega
def symsFew (g:List Sy):Bool:=decide (g.length≤300)&&g.all fun s=>decide (s.name.size≤100)
def rowSum:List (List Int)→Int→Int
 | [],n=>n
 | r :: rs,n=>if n≤3000 then rowSum rs (IntKind.i64.wrap (n+r.length)) else n
def Wo.few (w:Wo):Bool:=decide (w.rows.length≤300)&&decide (rowSum w.rows 0≤3000)
def cntS:List Tm→Int→Int
 | [],n=>n
 | t :: ts,n=>if n≤500 then cntS ts (n+t.cnt 500) else n
def litsFew (c:List Li):Bool:=decide (c.length≤40)&&decide (cntS (sides c) 0≤500)
theorem Zlh:∀ (ts:List Tm) (n:Int),0≤n→n≤1001→0≤cntS ts n∧(cntS ts n≤500→cntS ts n=n+Tm.sizes ts)
 | [],n,h,_=>⟨by simp [cntS,h],fun _=>by simp [cntS,Tm.sizes]⟩
 | t :: ts,n,h,h2=>by
  simp only [cntS]
  split
  ·rename_i hn
   have hb:=Zct t 500 (by omega)
   obtain ⟨h3,h4⟩:=Zlh ts (n+t.cnt 500) (by omega) (by omega)
   refine ⟨h3,fun h5=>?_⟩
   have h6:=h4 h5
   have h7:=Zkg t 500 (by omega) (by omega)
   simp only [Tm.sizes];omega
  ·rename_i hn
   exact ⟨h,fun h5=>absurd h5 hn⟩
theorem Zt8 (rs:List (List Int)) (n:Int) (h:¬ n≤3000):rowSum rs n=n:=by cases rs<;>simp [rowSum,h]
theorem Zch:∀ a b:List Tm,Tm.sizes (a++b)=Tm.sizes a+Tm.sizes b
 | [],b=>by simp [Tm.sizes]
 | t :: a,b=>by simp only [List.cons_append,Tm.sizes,Zch a b];omega
def manyL (size:Int) (most:Int):Nat→Int→Int
 | 0,n=>n
 | k+1,n=>if n≤most then manyL size most k (IntKind.i64.wrap (n*size)) else n
theorem Zlr {size most:Int} (k:Nat) (n:Int) (h:¬ n≤most):manyL size most k n=n:=by cases k<;>simp [manyL,h]
def clauseVars (c:List Li):List Int:=Tm.varsL (sides c) []
def worldMany (w:Wo) (c:List Li) (most:Int):Int:=min (manyL w.size most (clauseVars c).length 1) (most+1)
end Go.Proofs
namespace Go.Proofs
open Go Go.Abs
attribute [local go_sem] Nat.reduceAdd Nat.reduceSub Nat.reduceMul Nat.reduceLeDiff Nat.reduceEqDiff Nat.reduceBEq
theorem Zvz (g:List Sy):CallEq Tryz.prog 22 [.ps 4 (syms g)] (.bool (symsFew g)):=by
 refine CallEq.begin (rs:=[.tmp 2]) (m:=24) 1000 Tryz.func22 rfl rfl rfl (by decide) trivial ?_
 simp only [go_sem]
 by_cases hg:(g.length:Int)≤300
 ·refine EvK.loopI (ι:={i:Nat // i≤g.length∧(g.take i).all (fun s=>decide (s.name.size≤100))=true}) 1000 (fun i=>mkT 25 [(0, .ps 4 (syms g)),(3, .int .i64 i.1)]) (fun _=>[]) (fun i=>g.length - i.1) ⟨0,by simp⟩ ?_ (fun _=>Nat.zero_le _) ?_
  ·simp only [go_sem,Za5,Int.natCast_zero]
  ·rintro ⟨i,hi,hpre⟩
   by_cases hlt:(i:Int)<g.length
   ·have hlt':i<g.length:=by omega
    simp only [go_sem,Zal,hlt,hg,Int.toNat_natCast,Zb6 hlt',Zaz]
    refine ⟨by omega,fun hbad=>?_,fun hok=>?_⟩
    ·refine EvK.go 1000 ?_
     simp only [go_sem]
     have h1:g.all (fun s=>decide (s.name.size≤100))=false:=by
      rw [List.all_eq_false]
      exact ⟨g[i],List.getElem_mem hlt',by simp;omega⟩
     simp [symsFew,h1]
    ·refine ⟨⟨i+1,hlt',?_⟩,?_,by simp only;omega⟩
     ·rw [List.take_add_one,List.all_append,hpre,List.getElem?_eq_getElem hlt']
      simp;omega
     ·simp only [go_sem,Za5]
      rw [Zab (by omega)];rfl
   ·simp only [go_sem,Zal,hlt]
    refine EvK.go 1000 ?_
    simp only [go_sem,Zal]
    have:i=g.length:=by omega
    subst this
    rw [List.take_length] at hpre
    simp only [symsFew,hpre,Bool.and_true]
    congr 1
    simp;omega
 ·refine EvK.loopI (ι:=Unit) 1000 (fun _=>mkT 25 [(0, .ps 4 (syms g)),(3, .int .i64 0)]) (fun _=>[]) (fun _=>0) () ?_ (fun _=>Nat.zero_le _) ?_
  ·simp only [go_sem,Za5]
  ·rintro ⟨⟩
   have hlt:(0:Int)<g.length:=by omega
   simp only [go_sem,Zal,hlt,hg]
   refine EvK.go 1000 ?_
   simp only [go_sem,Zal,hg]
   have:¬ g.length≤300:=by omega
   simp [symsFew,this]
theorem Ya6 (ts:List Tm) (hl:ts.length<2 ^ 62):CallEq Tryz.prog 78 [.ps 2 (ts.map Tm.toA)] (.bool (decide (cntS ts 0≤500))):=by
 refine CallEq.begin (rs:=[.tmp 2]) (m:=23) 1000 Tryz.func78 rfl rfl rfl (by decide) trivial ?_
 simp only [go_sem]
 refine EvK.loopI (ι:={p:Nat×Int // p.1≤ts.length∧0≤p.2∧p.2≤1001∧cntS (ts.drop p.1) p.2=cntS ts 0}) 1000 (fun p=>mkT 24 [(0, .ps 2 (ts.map Tm.toA)),(3, .int .i64 p.1.2),(4, .int .i64 p.1.1)]) (fun _=>[]) (fun p=>ts.length - p.1.1) ⟨(0,0),by simp⟩ ?_ (fun _=>Nat.zero_le _) ?_
 ·simp only [go_sem,Za0,Int.natCast_zero]
 ·rintro ⟨⟨i,n⟩,hi,h1,h2,h3⟩
  simp only at hi h1 h2 h3
  by_cases hlt:(i:Int)<ts.length
  ·have hlt':i<ts.length:=by omega
   by_cases hn:n≤500
   ·simp only [go_sem,List.length_map,hlt,hn,Int.toNat_natCast,Zaq hlt',Za8,Nat.le_refl]
    refine ⟨by omega,?_⟩
    rw [← Za6]
    refine VCall.isoT [] (Zuf ts[i] 500 (by omega) (by omega)) (Za1 _ _ _) (by simp [go_sem,Za7]) ?_
    simp only [flatR,flatA,flatC,if_true]
    refine EvK.go 1000 ?_
    simp only [go_sem]
    have hb:=Zct ts[i] 500 (by omega)
    refine ⟨⟨(i+1,n+ts[i].cnt 500),hlt',by simp only;omega,by simp only;omega,?_⟩,?_,by simp only;omega⟩
    ·simp only
     rw [← h3,List.drop_eq_getElem_cons hlt',cntS,if_pos hn]
    ·simp only [go_sem,Za0]
     rw [Zab (by omega),Zab (by omega)]
     simp
   ·simp only [go_sem,List.length_map,hlt,hn]
    refine EvK.go 1000 ?_
    simp only [go_sem,hn]
    have:cntS (ts.drop i) n=n:=by cases ts.drop i<;>simp [cntS,hn]
    simp [← h3,this,hn]
  ·simp only [go_sem,List.length_map,hlt]
   refine EvK.go 1000 ?_
   simp only [go_sem]
   have:i=ts.length:=by omega
   subst this
   rw [← h3,List.drop_length,cntS]
theorem Zm6 (c:List Li) (hc:c.length≤2600000000000):CallEq Tryz.prog 49 [.ps 5 (lits c)] (.ps 2 ((sides c).map Tm.toA)):=by
 refine CallEq.begin (rs:=[.tmp 2]) (m:=24) 1000 Tryz.func49 rfl rfl rfl (by decide) (Za0 _) ?_
 simp only [go_sem]
 refine EvK.loopR (ι:={i:Nat // i≤c.length}) 1000 (fun i=>mkT 25 [(0, .ps 5 (lits c)),(3,slA 0 2 ((sides (c.take i.1)).map Tm.toA)),(4, .int .i64 i.1)]) (fun i=>[slB ((sides (c.take i.1)).map Tm.toA)]) (fun i=>c.length - i.1) ⟨0,by omega⟩ [] ?_ (fun _=>by simp) ?_
 ·refine Zb0 rfl ?_
  simp only [go_sem,sides,List.flatMap_nil,Zcd,Zc7,Za3,Za2,Int.natCast_zero]
 ·rintro ⟨i,hi⟩
  have hln:=Zh4 (c.take i)
  have hlt2:(c.take i).length≤c.length:=by rw [List.length_take];omega
  have hstep:=fun h=>Zlf c i h
  generalize hq:sides (c.take i)=q at *
  simp only [go_sem,Zaf,hq]
  refine ⟨fun hlt=>?_,fun hge=>?_⟩
  ·have hlt':i<c.length:=by omega
   refine EvK.draw [⟨none,[],[1]⟩, .no, .no, .no, .no, .no, .no, .no, .no, .no, .no,⟨some 1,[1],[]⟩,⟨some 2,[0,2],[]⟩] 1 3 mixed rfl rfl (by decide) ?_
   simp only [go_sem,padS,Zaf,Int.toNat_natCast,Zc6 hlt',Zaw,Nat.le_refl,Zmd,appOk,List.mem_cons,List.not_mem_nil,forall_eq_or_imp,forall_eq,Nat.zero_lt_two,List.length_map]
   refine ⟨by omega,by omega,by omega,?_⟩
   refine EvK.go 1000 ?_
   simp only [go_sem]
   refine ⟨⟨i+1,hlt'⟩,[(0,2),(2,0)],Zb0 rfl ?_,by simp only;omega⟩
   simp only [hstep hlt']
   rw [Zab (by omega)]
   have e1:(q++[c[i].l,c[i].r]).map Tm.toA=q.map Tm.toA++[.agg [.int .i64 c[i].l.head, .ps 2 (c[i].l.args.map Tm.toA)], .agg [.int .i64 c[i].r.head, .ps 2 (c[i].r.args.map Tm.toA)]]:=by
    rw [List.map_append,List.map_cons,List.map_cons,List.map_nil,Za6 c[i].l,Za6 c[i].r]
   have lw:lowL 0 ((q++[c[i].l,c[i].r]).map Tm.toA):=Za0 _
   rw [e1] at lw ⊢
   rw [Ze4 (by simp),Zdz (by simp)]
   simp only [go_sem,Za3,Za2,Za2 lw,List.length_map,Zac (Nat.zero_le 1) lw,Int.natCast_add,Int.natCast_one,Nat.zero_lt_one]
  ·refine EvK.go 1000 ?_
   have:i=c.length:=by omega
   subst this
   rw [List.take_length] at hq
   simp only [go_sem,hq,Zej]
theorem Zlk (c:List Li) (hc:c.length<1000000):CallEq Tryz.prog 46 [.ps 5 (lits c)] (.ps 2 ((sides c).map Tm.toA)):=by
 refine CallEq.begin (rs:=[.tmp 2]) (m:=24) 1000 Tryz.func46 rfl rfl rfl (by decide) (Za0 _) ?_
 simp only [go_sem]
 refine EvK.loopR (ι:={i:Nat // i≤c.length}) 1000 (fun i=>mkT 25 [(0, .ps 5 (lits c)),(3,slA 0 2 ((sides (c.take i.1)).map Tm.toA)),(4, .int .i64 i.1)]) (fun i=>[slB ((sides (c.take i.1)).map Tm.toA)]) (fun i=>c.length - i.1) ⟨0,by omega⟩ [] ?_ (fun _=>by simp) ?_
 ·refine Zb0 rfl ?_
  simp only [go_sem,sides,List.flatMap_nil,Zcd,Zc7,Za3,Za2,Int.natCast_zero]
 ·rintro ⟨i,hi⟩
  have hln:=Zh4 (c.take i)
  have hlt2:(c.take i).length≤c.length:=by rw [List.length_take];omega
  have hstep:=fun h=>Zlf c i h
  generalize hq:sides (c.take i)=q at *
  simp only [go_sem,Zaf,hq]
  refine ⟨fun hlt=>?_,fun hge=>?_⟩
  ·have hlt':i<c.length:=by omega
   refine EvK.draw [⟨none,[],[1]⟩, .no, .no, .no, .no, .no, .no, .no, .no, .no, .no,⟨some 1,[1],[]⟩,⟨some 2,[0,2],[]⟩] 1 3 mixed rfl rfl (by decide) ?_
   simp only [go_sem,padS,Zaf,Int.toNat_natCast,Zc6 hlt',Zaw,Nat.le_refl,Zmd,appOk,List.mem_cons,List.not_mem_nil,forall_eq_or_imp,forall_eq,Nat.zero_lt_two,List.length_map]
   refine ⟨by omega,by omega,by omega,?_⟩
   refine EvK.go 1000 ?_
   simp only [go_sem]
   refine ⟨⟨i+1,hlt'⟩,[(0,2),(2,0)],Zb0 rfl ?_,by simp only;omega⟩
   simp only [hstep hlt']
   rw [Zab (by omega)]
   have e1:(q++[c[i].l,c[i].r]).map Tm.toA=q.map Tm.toA++[.agg [.int .i64 c[i].l.head, .ps 2 (c[i].l.args.map Tm.toA)], .agg [.int .i64 c[i].r.head, .ps 2 (c[i].r.args.map Tm.toA)]]:=by
    rw [List.map_append,List.map_cons,List.map_cons,List.map_nil,Za6 c[i].l,Za6 c[i].r]
   have lw:lowL 0 ((q++[c[i].l,c[i].r]).map Tm.toA):=Za0 _
   rw [e1] at lw ⊢
   rw [Ze4 (by simp),Zdz (by simp)]
   simp only [go_sem,Za3,Za2,Za2 lw,List.length_map,Zac (Nat.zero_le 1) lw,Int.natCast_add,Int.natCast_one,Nat.zero_lt_one]
  ·refine EvK.go 1000 ?_
   have:i=c.length:=by omega
   subst this
   rw [List.take_length] at hq
   simp only [go_sem,hq,Zej]
theorem Zxc (c:List Li):CallEq Tryz.prog 48 [.ps 5 (lits c)] (.bool (litsFew c)):=by
 refine CallEq.begin (rs:=[.tmp 2]) (m:=10) 1000 Tryz.func48 rfl rfl rfl (by decide) trivial ?_
 by_cases h:(c.length:Int)≤40
 ·simp only [go_sem,Zaf,h]
  refine VCall.isoT [] (Zm6 c (by omega)) (Za1 _ _ _) (by simp [go_sem,Za3]) ?_
  rw [Zah]
  simp only [ite_self]
  refine EvK.go 1000 ?_
  simp only [go_sem]
  have hl:=Zh4 c
  refine VCall.isoT [] (Ya6 (sides c) (by omega)) (Za1 _ _ _) (by simp [go_sem,Za0]) ?_
  simp only [flatR,flatA,flatC,if_true]
  refine EvK.go 1000 ?_
  have:c.length≤40:=by omega
  simp only [go_sem,litsFew,this]
 ·simp only [go_sem,Zaf,h]
  have:¬ c.length≤40:=by omega
  simp [litsFew,this]
theorem Zq2 (ts:List Tm) (hf:Tm.fits ts) (hs:Tm.sizes ts<999999999):CallEq Tryz.prog 45 [.ps 2 (ts.map Tm.toA)] (.ps 1 (ints (Tm.varsL ts []))):=by
 refine CallEq.begin (rs:=[.tmp 2]) (m:=7) 1000 Tryz.func45 rfl rfl rfl (by decide) (Za4 _) ?_
 simp only [go_sem,Nat.le_refl]
 rw [Ydb]
 refine VCall.isoT [] (Yj1 (Tm.mk 0 ts) ⟨by unfold In64;omega,hf⟩ (by simp only [Tm.size];omega)) (Za1 _ _ _) (by simp [go_sem,Za7]) ?_
 rw [Zah]
 simp only [ite_self]
 refine EvK.go 1000 ?_
 simp only [go_sem,Tm.vars,Int.lt_irrefl]
theorem Zrt (w:Wo):CallEq Tryz.prog 17 [w.toA] (.bool w.few):=by
 refine CallEq.begin (rs:=[.tmp 2]) (m:=37) 1000 Tryz.func17 rfl rfl rfl (by decide) trivial ?_
 simp only [go_sem,Zee]
 by_cases hr:(w.rows.length:Int)≤300
 ·have hr':w.rows.length≤300:=by omega
  refine EvK.loopI (ι:={p:Nat×Int // p.1≤w.rows.length∧rowSum (w.rows.drop p.1) p.2=rowSum w.rows 0}) 1000 (fun p=>mkT 38 [(1, .ptr 0 0),(3, .int .i64 p.1.2),(4, .int .i64 p.1.1)]) (fun _=>[some (.var [.int .i64 w.size, .ps 1 (rowsA w.rows)])]) (fun p=>w.rows.length - p.1.1) ⟨(0,0),by simp⟩ ?_ (fun _=>by simp) ?_
  ·simp only [go_sem,Zb5,Int.natCast_zero,Nat.zero_lt_one]
  ·rintro ⟨⟨i,n⟩,hi,h3⟩
   simp only at hi h3
   by_cases hlt:(i:Int)<w.rows.length
   ·have hlt':i<w.rows.length:=by omega
    by_cases hn:n≤3000
    ·simp only [go_sem,Zbh,hlt,hr,hn,Int.toNat_natCast,Zh9 hlt',Zad]
     refine ⟨by omega,⟨(i+1,IntKind.i64.wrap (n+w.rows[i].length)),hlt',?_⟩,?_,by simp only;omega⟩
     ·simp only
      rw [← h3,List.drop_eq_getElem_cons hlt',rowSum,if_pos hn]
     ·simp only [go_sem,Zb5,Nat.zero_lt_one]
      rw [Zab (by omega)];rfl
    ·simp only [go_sem,Zbh,hlt,hr,hn]
     refine EvK.go 1000 ?_
     simp only [go_sem,Zbh,hr,hn]
     rw [Zt8 _ _ hn] at h3
     simp [Wo.few,← h3,hn]
   ·simp only [go_sem,Zbh,hlt]
    refine EvK.go 1000 ?_
    have:i=w.rows.length:=by omega
    subst this
    rw [List.drop_length,rowSum] at h3
    by_cases hn:n≤3000 <;>
    ·simp only [go_sem,Zbh,hr,hn]
     simp [Wo.few,← h3,hn,hr']
 ·refine EvK.loopI (ι:=Unit) 1000 (fun _=>mkT 38 [(1, .ptr 0 0),(3, .int .i64 0),(4, .int .i64 0)]) (fun _=>[some (.var [.int .i64 w.size, .ps 1 (rowsA w.rows)])]) (fun _=>0) () ?_ (fun _=>by simp) ?_
  ·simp only [go_sem,Zb5,Nat.zero_lt_one]
  ·rintro ⟨⟩
   have hlt:(0:Int)<w.rows.length:=by omega
   have hr':¬ w.rows.length≤300:=by omega
   simp only [go_sem,Zbh,hlt,hr]
   refine EvK.go 1000 ?_
   simp only [go_sem,Zbh,hr]
   simp [Wo.few,hr']
theorem Znl (w:Wo) (c:List Li) (most:Int) (hm : 0≤most∧most<2 ^ 62) (hc:c.length<1000000) (hf:Tm.fits (sides c)) (hs:Tm.sizes (sides c)<999999999) :
  CallEq Tryz.prog 20 [w.toA, .ps 5 (lits c), .int .i64 most] (.int .i64 (worldMany w c most)):=by
 refine CallEq.begin (rs:=[.tmp 6]) (m:=29) 1000 Tryz.func20 rfl rfl rfl (by decide) trivial ?_
 simp only [go_sem,Zee]
 refine VCall.isoT [] (Zlk c hc) (Za1 _ _ _) (by simp [go_sem,Za3]) ?_
 rw [Zah]
 simp only [ite_self]
 refine EvK.go 1000 ?_
 simp only [go_sem]
 refine VCall.isoT [] (Zq2 (sides c) hf hs) (Za1 _ _ _) (by simp [go_sem,Za0]) ?_
 rw [Zah]
 simp only [ite_self]
 refine EvK.go 1000 ?_
 have hvl:=Zf7 (sides c) []
 have hdef:worldMany w c most=min (manyL w.size most (Tm.varsL (sides c) []).length 1) (most+1):=rfl
 rw [hdef]
 generalize Tm.varsL (sides c) []=vs at *
 simp only [go_sem]
 refine EvK.loopI (ι:={p:Nat×Int // p.1≤vs.length∧manyL w.size most (vs.length - p.1) p.2=manyL w.size most vs.length 1}) 1000 (fun p=>mkT 32 [(2, .int .i64 most),(3, .ptr 0 0),(7, .int .i64 p.1.2),(8, .ps 1 (ints vs)),(9, .int .i64 p.1.1)]) (fun _=>[some (.var [.int .i64 w.size, .ps 1 (rowsA w.rows)])]) (fun p=>vs.length - p.1.1) ⟨(0,1),by simp⟩ ?_ (fun _=>by simp) ?_
 ·simp only [go_sem,Zb5,Za4,Int.natCast_zero,Nat.zero_lt_one]
 ·rintro ⟨⟨i,n⟩,hi,h3⟩
  simp only at hi h3
  have fin:∀ n':Int,n'=manyL w.size most vs.length 1→isT (.int .i64 (min (manyL w.size most vs.length 1) (most+1))) (.int .i64 (if IntKind.i64.wrap (most+1)<n' then IntKind.i64.wrap (most+1) else n')) [some (.var [.int .i64 w.size, .ps 1 (rowsA w.rows)])]:=by
   rintro n' rfl
   rw [Zab (by omega)]
   simp only [go_sem]
   congr 1
   split<;>omega
  by_cases hlt:(i:Int)<vs.length
  ·by_cases hn:n≤most
   ·simp only [go_sem,Zad,hlt,hn]
    refine ⟨⟨(i+1,IntKind.i64.wrap (n*w.size)),by simp only;omega,?_⟩,?_,by simp only;omega⟩
    ·simp only
     rw [← h3,show vs.length - i=(vs.length - (i+1))+1 by omega,manyL,if_pos hn]
    ·simp only [go_sem,Zb5,Za4,Nat.zero_lt_one]
     rw [Zab (by simp only [List.length_nil] at hvl;omega)];simp
   ·simp only [go_sem,Zad,hlt,hn]
    refine EvK.go 1000 ?_
    rw [Zlr _ _ hn] at h3
    have:=fin n h3
    simp only [go_sem]
    simpa [go_sem] using this
  ·simp only [go_sem,Zad,hlt]
   refine EvK.go 1000 ?_
   have:vs.length - i=0:=by omega
   rw [this,manyL] at h3
   have:=fin n h3
   simp only [go_sem]
   simpa [go_sem] using this
end Go.Proofs
namespace Go.Proofs
open Go Go.Abs
theorem Zd3 (s:ByteArray):(s.toList==ByteArray.toList { data:=#[] })=decide ((s.size:Int)<1):=by
 by_cases h:(s.size:Int)<1
 ·have e:s = { data:=#[] }:=by
   obtain ⟨d⟩:=s
   have:d.size=0:=by have:d.size=(ByteArray.mk d).size:=rfl;omega
   rw [Array.size_eq_zero_iff.1 this]
  rw [decide_eq_true h,e];exact beq_self_eq_true _
 ·rw [decide_eq_false h]
  cases c:(s.toList==ByteArray.toList { data:=#[] }) with
  | false=>rfl
  | true =>
   rw [Zte c] at h
   exact absurd (by decide) h
def Sy.right (x:Sy):Bool:=!(decide ((x.name.size:Int)<1)||decide (64<(x.name.size:Int))||decide (x.arity<0)||decide (8<x.arity)||decide (x.weight<1)||decide (1000<x.weight))
def Sy.dflt:Sy:=⟨⟨#[]⟩,0,0,false⟩
def trueName:ByteArray:=⟨#[36,116,114,117,101]⟩
def fresh (g:List Sy) (i:Nat):Bool:=(g.take i).all fun s=>!(s.name.toList==(g.getD i Sy.dflt).name.toList)
def okAt (g:List Sy) (i:Nat):Bool:=(g.getD i Sy.dflt).right&&fresh g i
def isTrue (x:Sy):Bool:=x.name.toList==trueName.toList&&(x.arity==0&&(x.weight==1&&x.truth))
def sigOk (g:List Sy):Bool:=!(decide ((g.length:Int)<1)||decide (256<(g.length:Int)))&&(List.range g.length).all (okAt g)&&isTrue (g.getD 0 Sy.dflt)
theorem Zd5 {g:List Sy} {i:Nat} (h:i<g.length):g.getD i Sy.dflt=g[i]:=by simp [List.getD,h]
theorem Zdw (p:Nat→Bool) (n:Nat):(List.range (n+1)).all p=((List.range n).all p&&p n):=by
 rw [List.range_succ,List.all_append];simp
theorem Zf8 {p:Nat→Bool} {n i:Nat} (hi:i<n) (h:p i=false):(List.range n).all p=false:=by
 rw [List.all_eq_false];exact ⟨i,by simpa using hi,by simp [h]⟩
theorem Zd6 {x:Sy} (h:(x.name.size:Int)<1∨64<(x.name.size:Int)∨x.arity<0∨8<x.arity∨x.weight<1∨1000<x.weight):x.right=false:=by
 simp only [Sy.right,Bool.not_eq_false',Bool.or_eq_true,decide_eq_true_eq];omega
theorem Zv9 {x:Sy} (h:¬ (x.name.size:Int)<1∧¬ 64<(x.name.size:Int)∧¬ x.arity<0∧¬ 8<x.arity∧¬ x.weight<1∧¬ 1000<x.weight):x.right=true:=by
 simp only [Sy.right,Bool.not_eq_true',Bool.or_eq_false_iff,decide_eq_false_iff_not];omega
theorem Znu {x:Sy} (h:x.right=true):¬ (x.name.size:Int)<1∧¬ 64<(x.name.size:Int)∧¬ x.arity<0∧¬ 8<x.arity∧¬ x.weight<1∧¬ 1000<x.weight:=by
 simp only [Sy.right,Bool.not_eq_true',Bool.or_eq_false_iff,decide_eq_false_iff_not] at h;omega
def symAt (g:List Sy) (h:Int):Sy:=g.getD h.toNat Sy.dflt
mutual
def Tm.known (g:List Sy):Tm→Bool
 | .mk h ts=>decide (h<0)||(!(decide ((g.length:Int)≤h))&&decide ((ts.length:Int)=(symAt g h).arity)&&Tm.knowns g ts)
def Tm.knowns (g:List Sy):List Tm→Bool
 | []=>true
 | t :: ts=>t.known g&&Tm.knowns g ts
end
def Tm.truth (g:List Sy) (t:Tm):Bool:=decide (0≤t.head)&&decide (t.head<(g.length:Int))&&(symAt g t.head).truth
mutual
def Tm.things (g:List Sy):Tm→Bool
 | .mk _ ts=>Tm.thingsL g ts
def Tm.thingsL (g:List Sy):List Tm→Bool
 | []=>true
 | t :: ts=>(!t.truth g&&t.things g)&&Tm.thingsL g ts
end
def Tm.term (g:List Sy) (t:Tm):Int:=if sigOk g=false then 1 else if t.check≠0 then t.check else if t.known g=false then 1 else if t.things g=false then 10 else 0
theorem Zgo (g:List Sy):∀ (ts:List Tm) (i:Nat) (hi:i<ts.length),Tm.knowns g ts=(Tm.knowns g (ts.take i)&&(ts[i].known g&&Tm.knowns g (ts.drop (i+1))))
 | t :: ts,0,_=>by simp [Tm.knowns]
 | t :: ts,i+1,hi=>by
  simp only [List.take_succ_cons,Tm.knowns,List.getElem_cons_succ,List.drop_succ_cons]
  rw [Zgo g ts i (by simpa using hi)];simp [Bool.and_assoc]
theorem Zsi (g:List Sy) (ts:List Tm) (i:Nat) (hi:i<ts.length):Tm.knowns g (ts.take (i+1))=(Tm.knowns g (ts.take i)&&ts[i].known g):=by
 have h:=Zgo g (ts.take (i+1)) i (by simp;omega)
 rw [h,List.take_take,Nat.min_eq_left (by omega),List.getElem_take,List.drop_eq_nil_of_le (by rw [List.length_take];omega)]
 simp [Tm.knowns]
theorem Zfg (g:List Sy):∀ (ts:List Tm) (i:Nat) (hi:i<ts.length),Tm.thingsL g ts=(Tm.thingsL g (ts.take i)&&((!ts[i].truth g&&ts[i].things g)&&Tm.thingsL g (ts.drop (i+1))))
 | t :: ts,0,_=>by simp [Tm.thingsL]
 | t :: ts,i+1,hi=>by
  simp only [List.take_succ_cons,Tm.thingsL,List.getElem_cons_succ,List.drop_succ_cons]
  rw [Zfg g ts i (by simpa using hi)];simp [Bool.and_assoc]
theorem Zqq (g:List Sy) (ts:List Tm) (i:Nat) (hi:i<ts.length):Tm.thingsL g (ts.take (i+1))=(Tm.thingsL g (ts.take i)&&(!ts[i].truth g&&ts[i].things g)):=by
 have h:=Zfg g (ts.take (i+1)) i (by simp;omega)
 rw [h,List.take_take,Nat.min_eq_left (by omega),List.getElem_take,List.drop_eq_nil_of_le (by rw [List.length_take];omega)]
 simp [Tm.thingsL]
def Li.check (g:List Sy) (l:Li):Int:=if l.l.term g≠0 then l.l.term g else if l.r.term g≠0 then l.r.term g else
 if (l.l.truth g&&decide (l.r.head≠0))||(!l.l.truth g&&l.r.truth g) then 10 else 0
def litsCheck (g:List Sy):List Li→Int
 | []=>0
 | l :: c=>if l.check g≠0 then l.check g else litsCheck g c
def clauseCheck (g:List Sy) (c:List Li):Int:=if sigOk g=false then 1 else if 32<(c.length:Int) then 2 else litsCheck g c
theorem Zg9 (g:List Sy) (c:List Li) (i:Nat) (h:i<c.length):litsCheck g (c.drop i)=if c[i].check g≠0 then c[i].check g else litsCheck g (c.drop (i+1)):=by
 rw [List.drop_eq_getElem_cons h,litsCheck]
def powW (size:Int):Nat→Int→Int
 | 0,n=>n
 | k+1,n=>powW size k (IntKind.i64.wrap (n*size))
end Go.Proofs
namespace Go.Proofs
open Go Go.Abs
attribute [local go_sem] Nat.reduceAdd Nat.reduceSub Nat.reduceMul Nat.reduceLeDiff Nat.reduceEqDiff Nat.reduceBEq
theorem Zn3 (g:List Sy):CallEq Tryz.prog 42 [.ps 4 (syms g)] (.bool (sigOk g)):=by
 refine CallEq.begin (rs:=[.tmp 2]) (m:=71) 1000 Tryz.func42 rfl rfl rfl (by decide) trivial ?_
 by_cases c1:(g.length:Int)<1
 ·simp only [go_sem,Zal,c1,sigOk]
 by_cases c2 : 256<(g.length:Int)
 ·simp only [go_sem,Zal,c1,c2,sigOk]
 simp only [go_sem,Zal,c1,c2]
 have bad:∀ i,i<g.length→okAt g i=false→sigOk g=false:=fun i hi hb=>by
  have:=Zf8 (p:=okAt g) hi hb
  simp [sigOk,this]
 refine EvK.loopR (ι:={i:Nat // i≤g.length∧(List.range i).all (okAt g)=true}) 1000 (fun i=>mkT 72 [(0, .ps 4 (syms g)),(3, .int .i64 i.1)]) (fun _=>[]) (fun i=>g.length - i.1) ⟨0,by simp⟩ [] ?_ (fun _=>Nat.zero_le _) ?_
 ·refine Zb0 rfl ?_
  simp only [go_sem,Za5,Za2,Int.natCast_zero]
 ·rintro ⟨i,hi,hpre⟩
  by_cases hlt:(i:Int)<g.length
  ·have hlt':i<g.length:=by omega
   have hga:=Zd5 hlt'
   generalize hx:g[i]=x at hga
   by_cases d1:(x.name.size:Int)<1
   ·have hb:okAt g i=false:=by simp only [okAt,hga,Zd6 (.inl d1),Bool.false_and]
    simp only [go_sem,Zal,hlt,Int.toNat_natCast,Zb6 hlt',hx,Zaz,Nat.le_refl,d1]
    refine ⟨by omega,?_⟩
    refine EvK.go 1000 ?_
    simp only [go_sem,bad i hlt' hb]
   by_cases d2 : 64<(x.name.size:Int)
   ·have hb:okAt g i=false:=by simp only [okAt,hga,Zd6 (.inr (.inl d2)),Bool.false_and]
    simp only [go_sem,Zal,hlt,Int.toNat_natCast,Zb6 hlt',hx,Zaz,Nat.le_refl,d1,d2]
    refine ⟨by omega,?_⟩
    refine EvK.go 1000 ?_
    simp only [go_sem,bad i hlt' hb]
   by_cases d3:x.arity<0
   ·have hb:okAt g i=false:=by simp only [okAt,hga,Zd6 (.inr (.inr (.inl d3))),Bool.false_and]
    simp only [go_sem,Zal,hlt,Int.toNat_natCast,Zb6 hlt',hx,Zaz,Nat.le_refl,d1,d2,d3]
    refine ⟨by omega,?_⟩
    refine EvK.go 1000 ?_
    simp only [go_sem,bad i hlt' hb]
   by_cases d4 : 8<x.arity
   ·have hb:okAt g i=false:=by simp only [okAt,hga,Zd6 (.inr (.inr (.inr (.inl d4)))),Bool.false_and]
    simp only [go_sem,Zal,hlt,Int.toNat_natCast,Zb6 hlt',hx,Zaz,Nat.le_refl,d1,d2,d3,d4]
    refine ⟨by omega,?_⟩
    refine EvK.go 1000 ?_
    simp only [go_sem,bad i hlt' hb]
   by_cases d5:x.weight<1
   ·have hb:okAt g i=false:=by simp only [okAt,hga,Zd6 (.inr (.inr (.inr (.inr (.inl d5))))),Bool.false_and]
    simp only [go_sem,Zal,hlt,Int.toNat_natCast,Zb6 hlt',hx,Zaz,Nat.le_refl,d1,d2,d3,d4,d5]
    refine ⟨by omega,?_⟩
    refine EvK.go 1000 ?_
    simp only [go_sem,bad i hlt' hb]
   by_cases d6 : 1000<x.weight
   ·have hb:okAt g i=false:=by simp only [okAt,hga,Zd6 (.inr (.inr (.inr (.inr (.inr (d6)))))),Bool.false_and]
    simp only [go_sem,Zal,hlt,Int.toNat_natCast,Zb6 hlt',hx,Zaz,Nat.le_refl,d1,d2,d3,d4,d5,d6]
    refine ⟨by omega,?_⟩
    refine EvK.go 1000 ?_
    simp only [go_sem,bad i hlt' hb]
   have hxr:=Zv9 ⟨d1,d2,d3,d4,d5,d6⟩
   simp only [go_sem,Zal,hlt,Int.toNat_natCast,Zb6 hlt',hx,Zaz,Nat.le_refl,d1,d2,d3,d4,d5,d6]
   refine ⟨by omega,?_⟩
   refine EvK.loopR (ι:={j:Nat // j≤i∧(g.take j).all (fun s=>!(s.name.toList==x.name.toList))=true}) 1000 (fun j=>mkT 72 [(0, .ps 4 (syms g)),(3, .int .i64 i),(4, .ptr 0 0),(5, .int .i64 j.1)]) (fun _=>[some (.var [.str x.name, .int .i64 x.arity, .int .i64 x.weight, .bool x.truth])]) (fun j=>i - j.1) ⟨0,by simp⟩ [] ?_ (fun _=>Nat.zero_le _) ?_
   ·refine Zb0 rfl ?_
    simp only [go_sem,Za5,Za2,Int.natCast_zero,Nat.zero_lt_one]
   ·rintro ⟨j,hj,hjp⟩
    by_cases hji:(j:Int)<i
    ·have hjl:j<g.length:=by omega
     simp only [go_sem,hji]
     refine EvK.draw [] 1 1 mixed rfl rfl (Nat.le_refl _) ?_
     simp only [go_sem,padS,Zal,Int.toNat_natCast,Zb6 hjl,Zaz,Nat.le_refl]
     refine ⟨by omega,?_⟩
     refine EvK.go 1000 ?_
     cases he:(g[j].name.toList==x.name.toList) with
     | true =>
      simp only [go_sem]
      refine EvK.go 1000 ?_
      have hb:okAt g i=false:=by
       simp only [okAt,fresh,hga]
       rw [Bool.and_eq_false_iff];right
       rw [List.all_eq_false]
       exact ⟨g[j],by rw [List.mem_take_iff_getElem];exact ⟨j,by omega,rfl⟩,by simp [he]⟩
      simp only [go_sem]
      refine EvK.go 1000 ?_
      simp only [go_sem,bad i hlt' hb]
     | false =>
      simp only [go_sem]
      refine ⟨⟨j+1,by omega,?_⟩,[],Zb0 rfl ?_,by simp only;omega⟩
      ·rw [List.take_add_one,List.all_append,hjp,List.getElem?_eq_getElem hjl]
       simp [he]
      ·simp only [go_sem,Za5,Za2,Nat.zero_lt_one]
       rw [Zab (by omega)];rfl
    ·simp only [go_sem,hji]
     refine EvK.go 1000 ?_
     simp only [go_sem]
     have hij:j=i:=by omega
     subst hij
     have hok:okAt g j=true:=by
      simp only [okAt,fresh,hga,hxr,Bool.true_and];exact hjp
     refine ⟨⟨j+1,hlt',by rw [Zdw,hpre,hok];rfl⟩,[],Zb0 rfl ?_,by simp only;omega⟩
     simp only [go_sem,Za5,Za2]
     rw [Zab (by omega)];rfl
  ·simp only [go_sem,Zal,hlt]
   have h0 : 0<g.length:=by omega
   have hi':i=g.length:=by omega
   subst hi'
   refine EvK.go 1000 ?_
   have e0:(syms g).getD 0 .undef=g[0].toA:=Zb6 h0
   simp only [go_sem,Zal,Int.toNat_zero,e0,Zaz,Nat.le_refl,Zrp,eqCells,eqCell]
   refine ⟨by omega,?_⟩
   have f1:decide ((g.length:Int)<1)=false:=decide_eq_false c1
   have f2:decide (256<(g.length:Int))=false:=decide_eq_false c2
   rw [sigOk,f1,f2,hpre,Zd5 h0]
   simp [isTrue,trueName]
theorem Zne (g:List Sy) (t:Tm):CallEq Tryz.prog 75 [.ps 4 (syms g),t.toA] (.bool (t.truth g)):=by
 refine CallEq.begin (rs:=[.tmp 4]) (m:=21) 1000 Tryz.func75 rfl rfl rfl (by decide) trivial ?_
 by_cases c1 : 0≤t.head
 ·by_cases c2:t.head<(g.length:Int)
  ·have hi:t.head.toNat<g.length:=by omega
   simp only [go_sem,Za6,Zal,c1,c2,Zb6 hi,Zaz,Nat.le_refl]
   have:symAt g t.head=g[t.head.toNat]:=Zd5 hi
   simp [Tm.truth,c1,c2,this]
  ·simp only [go_sem,Za6,Zal,c1,c2,Nat.le_refl,Tm.truth]
 ·simp only [go_sem,Za6,Zal,c1,Nat.le_refl,Tm.truth]
theorem Yec (g:List Sy) (t:Tm):t.size<2 ^ 62→CallEq Tryz.prog 112 [.ps 4 (syms g),t.toA] (.bool (t.known g)):=by
 induction t using Tm.rec_args with
 | h h ts ih =>
 intro hs
 simp only [Tm.size] at hs
 have hlen:=Zaj ts
 refine CallEq.begin (rs:=[.tmp 4]) (m:=39) 1000 Tryz.func112 rfl rfl rfl (by decide) trivial ?_
 by_cases c1:h<0
 ·simp only [go_sem,Za6,Tm.head,Tm.args,c1,Tm.known,Nat.le_refl]
 simp only [go_sem,Za6,Tm.head,Tm.args,c1,Nat.le_refl]
 refine EvK.draw [] 1 1 mixed rfl rfl (Nat.le_refl _) ?_
 by_cases c2:(g.length:Int)≤h
 ·simp only [go_sem,padS,Zal,c2,Nat.le_refl]
  refine EvK.go 1000 ?_
  simp only [go_sem,Tm.known,c1,c2]
 have hi:h.toNat<g.length:=by omega
 have hsy:symAt g h=g[h.toNat]:=Zd5 hi
 have hcond : 0≤h∧h<(g.length:Int):=by omega
 by_cases c3:(ts.length:Int)=g[h.toNat].arity
 ·simp only [go_sem,padS,Zal,c2,Nat.le_refl,List.length_map,Zb6 hi,Zaz,c3,hcond]
  refine EvK.go 1000 ?_
  simp only [go_sem]
  have hk:Tm.known g (.mk h ts)=Tm.knowns g ts:=by simp [Tm.known,c1,c2,hsy,c3]
  rw [hk]
  refine EvK.loopI (ι:={i:Nat // i≤ts.length∧Tm.knowns g (ts.take i)=true}) 1000 (fun i=>mkT 41 [(0, .ps 4 (syms g)),(3, .ptr 0 0),(5, .int .i64 i.1)]) (fun _=>[some (.var [.int .i64 h, .ps 2 (ts.map Tm.toA)])]) (fun i=>ts.length - i.1) ⟨0,by simp [Tm.knowns]⟩ ?_ (fun _=>by simp) ?_
  ·simp only [go_sem,Za5,Za0,Int.natCast_zero,Nat.zero_lt_one]
  ·rintro ⟨i,hi',hgi⟩
   simp only [go_sem,List.length_map]
   refine ⟨fun hlt=>?_,fun hge=>?_⟩
   ·have hlt':i<ts.length:=by omega
    refine ⟨by omega,?_⟩
    simp only [go_sem,Int.toNat_natCast,Zaq hlt',Za8,Nat.le_refl]
    rw [← Za6]
    have hsz:=Zb2 ts i hlt'
    refine VCall.isoT [] (ih i hlt' (by omega)) (Za1 _ _ _) (by simp [go_sem,Za7,Za5]) ?_
    simp only [flatR,flatA,flatC,if_true]
    refine EvK.go 1000 ?_
    have h1:=Zsi g ts i hlt'
    cases hgd:ts[i].known g with
    | true =>
     simp only [go_sem]
     refine ⟨⟨i+1,hlt',by rw [h1,hgi,hgd];rfl⟩,?_,by simp only;omega⟩
     simp only [go_sem,Za5,Za0,Nat.zero_lt_one]
     rw [Zab (by omega)];simp
    | false =>
     simp only [go_sem]
     refine EvK.go 1000 ?_
     simp only [go_sem]
     have h2:=Zgo g ts i hlt'
     rw [h2,hgd];simp
   ·refine EvK.go 1000 ?_
    simp only [go_sem]
    have:i=ts.length:=by omega
    subst this
    rw [List.take_length] at hgi
    rw [hgi]
 ·simp only [go_sem,padS,Zal,c2,Nat.le_refl,List.length_map,Zb6 hi,Zaz,c3,hcond]
  refine EvK.go 1000 ?_
  simp only [go_sem,Tm.known,c1,c2,hsy,c3]
theorem Zy6 (g:List Sy) (t:Tm):t.size<2 ^ 62→CallEq Tryz.prog 113 [.ps 4 (syms g),t.toA] (.bool (t.things g)):=by
 induction t using Tm.rec_args with
 | h h ts ih =>
 intro hs
 simp only [Tm.size] at hs
 have hlen:=Zaj ts
 refine CallEq.begin (rs:=[.tmp 4]) (m:=28) 1000 Tryz.func113 rfl rfl rfl (by decide) trivial ?_
 simp only [go_sem,Za6,Tm.head,Tm.args]
 have hk:Tm.things g (.mk h ts)=Tm.thingsL g ts:=by simp [Tm.things]
 rw [hk]
 refine EvK.loopI (ι:={i:Nat // i≤ts.length∧Tm.thingsL g (ts.take i)=true}) 1000 (fun i=>mkT 30 [(0, .ps 4 (syms g)),(3, .ptr 0 0),(5, .int .i64 i.1)]) (fun _=>[some (.var [.int .i64 h, .ps 2 (ts.map Tm.toA)])]) (fun i=>ts.length - i.1) ⟨0,by simp [Tm.thingsL]⟩ ?_ (fun _=>by simp) ?_
 ·simp only [go_sem,Za5,Za0,Int.natCast_zero,Nat.zero_lt_one]
 ·rintro ⟨i,hi',hgi⟩
  simp only [go_sem,List.length_map]
  refine ⟨fun hlt=>?_,fun hge=>?_⟩
  ·have hlt':i<ts.length:=by omega
   refine ⟨by omega,?_⟩
   simp only [go_sem,Int.toNat_natCast,Zaq hlt',Za8,Nat.le_refl]
   rw [← Za6]
   have hsz:=Zb2 ts i hlt'
   refine VCall.isoT [] (Zne g ts[i]) (Za1 _ _ _) (by simp [go_sem,Za7,Za5]) ?_
   simp only [flatR,flatA,flatC,if_true]
   refine EvK.go 1000 ?_
   have h1:=Zqq g ts i hlt'
   have h2:=Zfg g ts i hlt'
   cases htr:ts[i].truth g with
   | true =>
    simp only [go_sem]
    refine EvK.go 1000 ?_
    simp only [go_sem]
    rw [h2,htr];simp
   | false =>
    simp only [go_sem,Int.toNat_natCast,Zaq hlt',Za8,Nat.le_refl,List.length_map]
    refine ⟨by omega,?_⟩
    rw [← Za6]
    refine VCall.isoT [] (ih i hlt' (by omega)) (Za1 _ _ _) (by simp [go_sem,Za7,Za5]) ?_
    simp only [flatR,flatA,flatC,if_true]
    refine EvK.go 1000 ?_
    cases hgd:ts[i].things g with
    | true =>
     simp only [go_sem]
     refine ⟨⟨i+1,hlt',by rw [h1,hgi,htr,hgd];rfl⟩,?_,by simp only;omega⟩
     simp only [go_sem,Za5,Za0,Nat.zero_lt_one]
     rw [Zab (by omega)];simp
    | false =>
     simp only [go_sem]
     refine EvK.go 1000 ?_
     simp only [go_sem]
     rw [h2,hgd];simp
  ·refine EvK.go 1000 ?_
   simp only [go_sem]
   have:i=ts.length:=by omega
   subst this
   rw [List.take_length] at hgi
   rw [hgi]
theorem Zya (g:List Sy) (t:Tm) (hs:t.size<2 ^ 62):CallEq Tryz.prog 74 [.ps 4 (syms g),t.toA] (.int .i64 (t.term g)):=by
 refine CallEq.begin (rs:=[.tmp 4]) (m:=20) 1000 Tryz.func74 rfl rfl rfl (by decide) trivial ?_
 simp only [go_sem,Za6,Nat.le_refl]
 refine VCall.isoT [] (Zn3 g) (Za1 _ _ _) (by simp [go_sem,Za5]) ?_
 simp only [flatR,flatA,flatC,if_true]
 refine EvK.go 1000 ?_
 cases c1:sigOk g with
 | false=>simp only [go_sem,Tm.term,c1]
 | true =>
 simp only [go_sem,Nat.le_refl]
 rw [← Za6]
 refine VCall.isoT [] (Ygw t hs) (Za1 _ _ _) (by simp [go_sem,Za7]) ?_
 simp only [flatR,flatA,flatC,if_true]
 refine EvK.go 1000 ?_
 by_cases c2:t.check=0
 ·simp only [go_sem,c2,Nat.le_refl]
  rw [← Za6]
  refine VCall.isoT [] (Yec g t hs) (Za1 _ _ _) (by simp [go_sem,Za5,Za7]) ?_
  simp only [flatR,flatA,flatC,if_true]
  refine EvK.go 1000 ?_
  cases c3:t.known g with
  | false=>simp only [go_sem,Tm.term,c1,c2,c3]
  | true =>
  simp only [go_sem,Nat.le_refl]
  rw [← Za6]
  refine VCall.isoT [] (Zy6 g t hs) (Za1 _ _ _) (by simp [go_sem,Za5,Za7]) ?_
  simp only [flatR,flatA,flatC,if_true]
  refine EvK.go 1000 ?_
  cases c4:t.things g<;>simp only [go_sem,Tm.term,c1,c2,c3,c4]
 ·simp only [go_sem,c2,Tm.term,c1]
theorem Zr3 (g:List Sy) (l:Li) (hl:l.l.size<2 ^ 62) (hr:l.r.size<2 ^ 62):CallEq Tryz.prog 44 [.ps 4 (syms g),l.toA] (.int .i64 (l.check g)):=by
 refine CallEq.begin (rs:=[.tmp 4]) (m:=41) 1000 Tryz.func44 rfl rfl rfl (by decide) trivial ?_
 simp only [go_sem,Li.toA,Li.cs,Nat.le_refl]
 rw [← Za6 l.l]
 refine VCall.isoT [] (Zya g l.l hl) (Za1 _ _ _) (by simp [go_sem,Za5,Za7]) ?_
 simp only [flatR,flatA,flatC,if_true]
 refine EvK.go 1000 ?_
 by_cases c1:l.l.term g=0
 ·simp only [go_sem,c1,Nat.le_refl]
  rw [← Za6 l.r]
  refine VCall.isoT [] (Zya g l.r hr) (Za1 _ _ _) (by simp [go_sem,Za5,Za7]) ?_
  simp only [flatR,flatA,flatC,if_true]
  refine EvK.go 1000 ?_
  by_cases c2:l.r.term g=0
  ·simp only [go_sem,c2,Nat.le_refl]
   rw [← Za6 l.l]
   refine VCall.isoT [] (Zne g l.l) (Za1 _ _ _) (by simp [go_sem,Za5,Za7]) ?_
   simp only [flatR,flatA,flatC,if_true]
   refine EvK.go 1000 ?_
   cases c3:l.l.truth g with
   | true =>
    by_cases c4:l.r.head=0 <;>
    ·simp only [go_sem,c4,Nat.le_refl]
     simp [Li.check,c1,c2,c3,c4]
   | false =>
    simp only [go_sem,Nat.le_refl]
    rw [← Za6 l.r]
    refine VCall.isoT [] (Zne g l.r) (Za1 _ _ _) (by simp [go_sem,Za5,Za7]) ?_
    simp only [flatR,flatA,flatC,if_true]
    refine EvK.go 1000 ?_
    cases c4:l.r.truth g <;>
    ·simp only [go_sem]
     simp [Li.check,c1,c2,c3,c4]
  ·simp only [go_sem,c2]
   simp [Li.check,c1,c2]
 ·simp only [go_sem,c1]
  simp [Li.check,c1]
theorem Zl9 (g:List Sy) (c:List Li) (hs:∀ (i:Nat) (h:i<c.length),c[i].l.size<2 ^ 62∧c[i].r.size<2 ^ 62):CallEq Tryz.prog 19 [.ps 4 (syms g), .ps 5 (lits c)] (.int .i64 (clauseCheck g c)):=by
 refine CallEq.begin (rs:=[.tmp 4]) (m:=26) 1000 Tryz.func19 rfl rfl rfl (by decide) trivial ?_
 simp only [go_sem]
 refine VCall.isoT [] (Zn3 g) (Za1 _ _ _) (by simp [go_sem,Za5]) ?_
 simp only [flatR,flatA,flatC,if_true]
 refine EvK.go 1000 ?_
 cases c1:sigOk g with
 | false =>
  simp only [go_sem]
  simp [clauseCheck,c1]
 | true =>
 by_cases c2 : 32<(c.length:Int)
 ·simp only [go_sem,Zaf,c2]
  simp [clauseCheck,c1,c2]
 simp only [go_sem,Zaf,c2]
 have hcc:clauseCheck g c=litsCheck g c:=by simp [clauseCheck,c1,c2]
 rw [hcc]
 refine EvK.loopI (ι:={i:Nat // i≤c.length∧litsCheck g (c.drop i)=litsCheck g c}) 1000 (fun i=>mkT 28 [(0, .ps 4 (syms g)),(1, .ps 5 (lits c)),(5, .int .i64 i.1)]) (fun _=>[]) (fun i=>c.length - i.1) ⟨0,by simp⟩ ?_ (fun _=>Nat.zero_le _) ?_
 ·simp only [go_sem,Za5,Za3,Int.natCast_zero]
 ·rintro ⟨i,hi,hpre⟩
  by_cases hlt:(i:Int)<c.length
  ·have hlt':i<c.length:=by omega
   rw [Zg9 g c i hlt'] at hpre
   simp only [go_sem,Zaf,hlt,Int.toNat_natCast,Zc6 hlt',Zaw,Nat.le_refl]
   refine ⟨by omega,?_⟩
   have hsz:=hs i hlt'
   refine VCall.isoT [] (Zr3 g c[i] hsz.1 hsz.2) (by simp only [Li.toA,Li.cs];exact Za1 _ _ _) (by simp [go_sem,Za5,Zcp]) ?_
   simp only [flatR,flatA,flatC,if_true]
   refine EvK.go 1000 ?_
   by_cases c3:c[i].check g=0
   ·simp only [go_sem,c3]
    rw [if_neg (by simp [c3])] at hpre
    refine ⟨⟨i+1,hlt',hpre⟩,?_,by simp only;omega⟩
    simp only [go_sem,Za5,Za3]
    rw [Zab (by omega)];rfl
   ·simp only [go_sem,c3]
    rw [if_pos c3] at hpre
    refine EvK.go 1000 ?_
    simp only [go_sem,hpre]
  ·simp only [go_sem,Zaf,hlt]
   refine EvK.go 1000 ?_
   simp only [go_sem]
   have:i=c.length:=by omega
   subst this
   rw [← hpre,List.drop_length,litsCheck]
end Go.Proofs
namespace Go.Proofs
open Go Go.Abs
theorem Zls (s:Int) (h1 : 1≤s) (h2:s≤4):∀ (k:Nat) (n:Int),1≤n→n*4 ^ k≤1000000→powW s k n=n*s ^ k∧1≤n*s ^ k∧n*s ^ k≤n*4 ^ k
 | 0,n,h,_=>by simp [powW];omega
 | k+1,n,h,hb=>by
  have e1:n*4 ^ (k+1)=(n*4)*4 ^ k:=by rw [Int.pow_succ];rw [Int.mul_comm (4 ^ k) 4,Int.mul_assoc]
  have hp:(1:Int)≤4 ^ k:=Int.pow_pos (n:=4) (m:=k) (by omega)
  have hn4:n*4≤n*4*4 ^ k:=by
   have:=Int.mul_le_mul_of_nonneg_left hp (show 0≤n*4 by omega)
   omega
  have hns : 1≤n*s∧n*s≤n*4:=by
   constructor
   ·have:=Int.mul_le_mul h h1 (by omega) (by omega:(0:Int)≤n);omega
   ·exact Int.mul_le_mul_of_nonneg_left h2 (by omega)
  have hmono:n*s*4 ^ k≤n*4*4 ^ k:=Int.mul_le_mul_of_nonneg_right hns.2 (by omega)
  have hw:IntKind.i64.wrap (n*s)=n*s:=Zab (by omega)
  simp only [powW]
  rw [hw]
  obtain ⟨q1,q2,q3⟩:=Zls s h1 h2 k (n*s) hns.1 (by omega)
  have e2:n*s ^ (k+1)=n*s*s ^ k:=by rw [Int.pow_succ,Int.mul_comm (s ^ k) s,Int.mul_assoc]
  rw [e2,e1]
  exact ⟨q1,q2,by omega⟩
def rowOk (size:Int) (most:Int) (a:Int) (r:List Int):Bool:=!(decide (4<a) || !decide ((r.length:Int)=size ^ a.toNat))&&r.all fun x=>!(decide (x<0)||decide (most≤x))
def mostOf (w:Wo) (x:Sy):Int:=if x.truth then 2 else w.size
def rowOkAt (g:List Sy) (w:Wo) (i:Nat):Bool:=rowOk w.size (mostOf w (g.getD i Sy.dflt)) (g.getD i Sy.dflt).arity (w.rows.getD i [])
def worldOk (g:List Sy) (w:Wo):Bool:=!(!sigOk g||decide (w.size<1)||decide (4<w.size) || !decide ((w.rows.length:Int)=g.length))&&(List.range g.length).all (rowOkAt g w)&&decide ((w.rows.getD 0 []).getD 0 0=1)
theorem Zpf (s:Int) (h1 : 1≤s) (h2:s≤4) (k:Nat) (hk:k≤4):powW s k 1=s ^ k∧1≤s ^ k∧s ^ k≤256:=by
 have hb:(1:Int)*4 ^ k≤1000000∧(4:Int) ^ k≤256:=by
  rcases (by omega:k=0∨k=1∨k=2∨k=3∨k=4) with rfl | rfl | rfl | rfl | rfl<;>decide
 obtain ⟨q1,q2,q3⟩:=Zls s h1 h2 k 1 (by omega) hb.1
 simp only [Int.one_mul] at q1 q2 q3
 exact ⟨q1,q2,by omega⟩
theorem Zuv {g:List Sy} (h:sigOk g=true) {i:Nat} (hi:i<g.length):g[i].right=true:=by
 simp only [sigOk,Bool.and_eq_true] at h
 have:=List.all_eq_true.1 h.1.2 i (by simpa using hi)
 simp only [okAt,Bool.and_eq_true,Zd5 hi] at this
 exact this.1
theorem Zoa {g:List Sy} (h:sigOk g=true) : 1≤g.length∧g.length≤256:=by
 simp only [sigOk,Bool.and_eq_true,Bool.not_eq_true',Bool.or_eq_false_iff,decide_eq_false_iff_not] at h
 omega
theorem Ziu {w:Wo} {i:Nat} (h:i<w.rows.length):w.rows.getD i []=w.rows[i]:=by simp [List.getD,h]
theorem Yix {g:List Sy} {w:Wo} (h:sigOk g=true) (hw : 1≤w.size) (h0 : 0<g.length) (hr : 0<w.rows.length) (hok:rowOkAt g w 0=true) : 0<w.rows[0].length:=by
 simp only [rowOkAt,rowOk,Ziu hr,Bool.and_eq_true,Bool.not_eq_true',Bool.or_eq_false_iff,Bool.not_eq_false',decide_eq_true_eq] at hok
 have h1:=hok.1.2
 have:(0:Int)<w.size ^ (g.getD 0 Sy.dflt).arity.toNat:=Int.pow_pos (by omega)
 omega
theorem Ziv {l:List Int} {i:Nat} (h:i<l.length):l.getD i 0=l[i]:=by simp [List.getD,h]
end Go.Proofs
namespace Go.Proofs
open Go Go.Abs
attribute [local go_sem] Nat.reduceAdd Nat.reduceSub Nat.reduceMul Nat.reduceLeDiff Nat.reduceEqDiff Nat.reduceBEq
theorem Zm9 (s m:Int) (hm:m<2 ^ 62):CallEq Tryz.prog 43 [.int .i64 s, .int .i64 m] (.int .i64 (powW s m.toNat 1)):=by
 refine CallEq.begin (rs:=[.tmp 4]) (m:=14) 1000 Tryz.func43 rfl rfl rfl (by decide) trivial ?_
 simp only [go_sem]
 refine EvK.loopI (ι:={p:Nat×Int // p.1≤m.toNat∧powW s (m.toNat - p.1) p.2=powW s m.toNat 1}) 1000 (fun p=>mkT 16 [(0, .int .i64 s),(1, .int .i64 m),(5, .int .i64 p.1.2),(6, .int .i64 p.1.1)]) (fun _=>[]) (fun p=>m.toNat - p.1.1) ⟨(0,1),by simp⟩ ?_ (fun _=>Nat.zero_le _) ?_
 ·simp only [go_sem,Int.natCast_zero]
 ·rintro ⟨⟨i,n⟩,hi,h3⟩
  simp only at hi h3
  simp only [go_sem]
  refine ⟨fun hlt=>⟨⟨(i+1,IntKind.i64.wrap (n*s)),by simp only;omega,?_⟩,?_,by simp only;omega⟩,fun hge=>?_⟩
  ·simp only
   rw [← h3,show m.toNat - i=(m.toNat - (i+1))+1 by omega,powW]
  ·simp only [go_sem]
   rw [Zab (by omega)];simp
  ·refine EvK.go 1000 ?_
   simp only [go_sem]
   rw [show m.toNat - i=0 by omega,powW] at h3
   rw [h3]
set_option maxRecDepth 20000 in
set_option maxHeartbeats 1600000 in
theorem Zmk (g:List Sy) (w:Wo):CallEq Tryz.prog 18 [.ps 4 (syms g),w.toA] (.bool (worldOk g w)):=by
 refine CallEq.begin (rs:=[.tmp 4]) (m:=101) 1000 Tryz.func18 rfl rfl rfl (by decide) trivial ?_
 simp only [go_sem,Zee]
 refine VCall.isoT [] (Zn3 g) (Za1 _ _ _) (by simp [go_sem,Za5]) ?_
 simp only [flatR,flatA,flatC,if_true]
 refine EvK.go 1000 ?_
 cases c1:sigOk g with
 | false=>simp only [go_sem,worldOk,c1]
 | true =>
 obtain ⟨hg1,hg2⟩:=Zoa c1
 by_cases c2:w.size<1
 ·simp only [go_sem,worldOk,c1,c2]
 by_cases c3 : 4<w.size
 ·simp only [go_sem,worldOk,c1,c2,c3]
 by_cases c4:(w.rows.length:Int)=g.length
 case neg=>simp only [go_sem,worldOk,c1,c2,c3,c4,Zbh,Zal]
 simp only [go_sem,c2,c3,c4,Zbh,Zal]
 have hw:worldOk g w=((List.range g.length).all (rowOkAt g w)&&decide ((w.rows.getD 0 []).getD 0 0=1)):=by
  simp only [worldOk,c1,decide_eq_false c2,decide_eq_false c3,decide_eq_true c4];rfl
 rw [hw]
 have bad:∀ i,i<g.length→rowOkAt g w i=false→((List.range g.length).all (rowOkAt g w)&&decide ((w.rows.getD 0 []).getD 0 0=1))=false:=fun i hi hb=>by
  rw [Zf8 (p:=rowOkAt g w) hi hb,Bool.false_and]
 refine EvK.loopI (ι:={i:Nat // i≤g.length∧(List.range i).all (rowOkAt g w)=true}) 1000 (fun i=>mkT 103 [(0, .ps 4 (syms g)),(3, .ptr 0 0),(5, .int .i64 i.1)]) (fun _=>[some (.var [.int .i64 w.size, .ps 1 (rowsA w.rows)])]) (fun i=>g.length - i.1) ⟨0,by simp⟩ ?_ (fun _=>Nat.zero_le _) ?_
 ·simp only [go_sem,Za5,Zb5,Int.natCast_zero,Nat.zero_lt_one]
 ·rintro ⟨i,hi,hpre⟩
  by_cases hlt:(i:Int)<g.length
  ·have hlt':i<g.length:=by omega
   have hlr:i<w.rows.length:=by omega
   have hga:=Zd5 hlt'
   have hra:=Ziu hlr
   have hxr:=Znu (Zuv c1 hlt')
   have hro:rowOkAt g w i=rowOk w.size (mostOf w g[i]) g[i].arity w.rows[i]:=by simp only [rowOkAt,hga,hra]
   have hg0:(syms g).getD i .undef=g[i].toA:=Zb6 hlt'
   have hr0:(rowsA w.rows).getD i .undef = .ps 1 (ints w.rows[i]):=Zh9 hlr
   generalize g[i]=x at *
   generalize w.rows[i]=r at *
   cases htr:x.truth
   case' false=>simp only [go_sem,Zal,hlt,Int.toNat_natCast,hg0,Zaz,htr]
   case' true=>simp only [go_sem,Zal,hlt,Int.toNat_natCast,hg0,Zaz,htr]
   all_goals refine ⟨by omega,?_⟩
   all_goals refine EvK.draw [] 1 1 mixed rfl rfl (Nat.le_refl _) ?_
   all_goals
    by_cases d1 : 4<x.arity
    ·have hb:rowOkAt g w i=false:=by rw [hro,rowOk,decide_eq_true d1];simp
     simp only [go_sem,padS,Zal,Int.toNat_natCast,hg0,Zaz,d1]
     refine ⟨by omega,?_⟩
     refine EvK.go 1000 ?_
     simp only [go_sem]
     refine EvK.go 1000 ?_
     simp only [go_sem,bad i hlt' hb]
    obtain ⟨p1,p2,p3⟩:=Zpf w.size (by omega) (by omega) x.arity.toNat (by omega)
    simp only [go_sem,padS,Zal,Zbh,Int.toNat_natCast,hg0,hr0,Zaz,d1,Zad]
    refine ⟨by omega,by omega,by omega,?_⟩
    refine Zar (Zm9 w.size x.arity (by omega)) ?_ ?_ ?_
    ·exact Za1 _ _ _
    ·simp [go_sem]
    rw [p1]
    by_cases d2:(r.length:Int)=w.size ^ x.arity.toNat
    case neg =>
     have hb:rowOkAt g w i=false:=by rw [hro,rowOk,decide_eq_false d2];simp
     simp only [go_sem,d2]
     refine EvK.go 1000 ?_
     simp only [go_sem]
     refine EvK.go 1000 ?_
     simp only [go_sem,bad i hlt' hb]
    have p4:(r.length:Int)≤256:=by omega
    simp only [go_sem,d2]
    refine EvK.go 1000 ?_
    simp only [go_sem]
    refine EvK.loopI (ι:={k:Nat // k≤r.length∧(r.take k).all (fun v=>!(decide (v<0)||decide (mostOf w x≤v)))=true}) 1000 (fun k=>mkT 103 [(0, .ps 4 (syms g)),(3, .ptr 0 0),(5, .int .i64 i),(6, .int .i64 (mostOf w x)),(7, .int .i64 k.1)]) (fun _=>[some (.var [.int .i64 w.size, .ps 1 (rowsA w.rows)])]) (fun k=>r.length - k.1) ⟨0,by simp⟩ ?_ (fun _=>Nat.zero_le _) ?_
    ·simp only [go_sem,Za5,Zb5,Int.natCast_zero,Nat.zero_lt_one,mostOf,htr]
    ·rintro ⟨k,hk,hkp⟩
     by_cases hkr:(k:Int)<r.length
     ·have hkl:k<r.length:=by omega
      have hkv:(ints r).getD k .undef = .int .i64 r[k]:=Zbe hkl
      have hbk:∀ (hv:(!(decide (r[k]<0)||decide (mostOf w x≤r[k])))=false),rowOkAt g w i=false:=fun hv=>by
       rw [hro,rowOk,Bool.and_eq_false_iff];right
       rw [List.all_eq_false]
       exact ⟨r[k],List.getElem_mem hkl,by rw [hv];decide⟩
      have hsn:(r.take (k+1)).all (fun v=>!(decide (v<0)||decide (mostOf w x≤v)))=((r.take k).all (fun v=>!(decide (v<0)||decide (mostOf w x≤v))) && !(decide (r[k]<0)||decide (mostOf w x≤r[k]))):=by
       rw [List.take_add_one,List.all_append,List.getElem?_eq_getElem hkl];simp
      generalize r[k]=v at *
      by_cases d3:v<0
      ·simp only [go_sem,Zbh,Int.toNat_natCast,hr0,Zad,hkr,hkv,d3]
       (repeat ((with_reducible refine And.intro ?_ ?_); ·omega))
       refine EvK.go 1000 ?_
       simp only [go_sem]
       refine EvK.go 1000 ?_
       simp only [go_sem,bad i hlt' (hbk (by rw [decide_eq_true d3];rfl))]
      by_cases d4:mostOf w x≤v
      ·simp only [go_sem,Zbh,Int.toNat_natCast,hr0,Zad,hkr,hkv,d3,d4]
       (repeat ((with_reducible refine And.intro ?_ ?_); ·omega))
       refine EvK.go 1000 ?_
       simp only [go_sem]
       refine EvK.go 1000 ?_
       simp only [go_sem,bad i hlt' (hbk (by rw [decide_eq_true d4];simp))]
      simp only [go_sem,Zbh,Int.toNat_natCast,hr0,Zad,hkr,hkv,d3,d4]
      (repeat ((with_reducible refine And.intro ?_ ?_); ·omega))
      refine ⟨⟨k+1,by omega,by rw [hsn,hkp,decide_eq_false d3,decide_eq_false d4];rfl⟩,?_,by simp only;omega⟩
      simp only [go_sem,Za5,Zb5,Nat.zero_lt_one]
      rw [Zab (by omega)];rfl
     ·simp only [go_sem,Zbh,Int.toNat_natCast,hr0,Zad,hkr]
      (repeat ((with_reducible refine And.intro ?_ ?_); ·omega))
      refine EvK.go 1000 ?_
      simp only [go_sem]
      have hkl:k=r.length:=by omega
      subst hkl
      rw [List.take_length] at hkp
      have hok:rowOkAt g w i=true:=by
       rw [hro,rowOk,decide_eq_false d1,decide_eq_true d2,hkp];rfl
      refine ⟨⟨i+1,hlt',by rw [Zdw,hpre,hok];rfl⟩,?_,by simp only;omega⟩
      simp only [go_sem,Za5,Zb5,Nat.zero_lt_one]
      rw [Zab (by omega)];rfl
  ·have hi':i=g.length:=by omega
   subst hi'
   have h0 : 0<g.length:=by omega
   have hr0 : 0<w.rows.length:=by omega
   have e0:(rowsA w.rows).getD 0 .undef = .ps 1 (ints w.rows[0]):=Zh9 hr0
   have e1:=Ziu hr0
   have hok:rowOkAt g w 0=true:=List.all_eq_true.1 hpre 0 (by simpa using h0)
   have e2 : 0<w.rows[0].length:=Yix c1 (by omega) h0 hr0 hok
   have e3:(ints w.rows[0]).getD 0 .undef = .int .i64 w.rows[0][0]:=Zbe e2
   simp only [go_sem,Zal,hlt]
   refine EvK.go 1000 ?_
   simp only [go_sem,Zbh,Int.toNat_zero,e0,Zad,e3]
   (repeat ((with_reducible refine And.intro ?_ ?_); ·omega))
   rw [hpre,e1,Ziv e2];rfl
end Go.Proofs
namespace Go.Proofs
open Go Go.Abs
mutual
def Tm.val (w:Wo) (f:Int→Int):Tm→Int
 | .mk h ts=>if h<0 then f (-1 - h) else (w.rows.getD h.toNat []).getD (Tm.ats w f ts 0).toNat 0
def Tm.ats (w:Wo) (f:Int→Int):List Tm→Int→Int
 | [],a=>a
 | t :: ts,a=>Tm.ats w f ts (a*w.size+t.val w f)
end
def Tm.thingW (w:Wo) (t:Tm):Prop:=t.head<0∨∀ v∈w.rows.getD t.head.toNat [],0≤v∧v<w.size
mutual
def Tm.okW (w:Wo):Tm→Prop
 | .mk h ts=>h<0∨(h<w.rows.length∧ts.length≤4∧((w.rows.getD h.toNat []).length:Int)=w.size ^ ts.length∧Tm.oksW w ts)
def Tm.oksW (w:Wo):List Tm→Prop
 | []=>True
 | t :: ts=>(t.okW w∧t.thingW w)∧Tm.oksW w ts
end
theorem Zup {w:Wo}:∀ {ts:List Tm},Tm.oksW w ts→∀ (i:Nat) (hi:i<ts.length),ts[i].okW w∧ts[i].thingW w
 | t :: ts,h,0,_=>h.1
 | t :: ts,h,i+1,hi=>Zup h.2 i (by simpa using hi)
theorem Zph {w:Wo}:∀ {ts:List Tm},Tm.oksW w ts→∀ i,Tm.oksW w (ts.take i)
 | [],_,i=>by simp [Tm.oksW]
 | t :: ts,h,0=>trivial
 | t :: ts,h,i+1=>⟨h.1,Zph h.2 i⟩
theorem Zkc {w:Wo} {f:Int→Int} (hw : 1≤w.size) (hf:∀ v,0≤f v∧f v<w.size) (t:Tm) (h:t.thingW w) : 0≤t.val w f∧t.val w f<w.size:=by
 obtain ⟨hd,ts⟩:=t
 simp only [Tm.val]
 split
 ·exact hf _
 ·rename_i hn
  have h2:∀ v∈w.rows.getD hd.toNat [],0≤v∧v<w.size:=h.resolve_left hn
  generalize w.rows.getD hd.toNat []=r at h2 ⊢
  generalize (Tm.ats w f ts 0).toNat=k
  by_cases hk:k<r.length
  ·rw [Ziv hk];exact h2 _ (List.getElem_mem hk)
  ·rw [List.getD_eq_getElem?_getD,List.getElem?_eq_none (by omega),Option.getD_none];omega
theorem Zjt {w:Wo} {f:Int→Int} (hw : 1≤w.size) (hf:∀ v,0≤f v∧f v<w.size):∀ (ts:List Tm) (a:Int),Tm.oksW w ts→0≤a→0≤Tm.ats w f ts a∧Tm.ats w f ts a<(a+1)*w.size ^ ts.length
 | [],a,_,h=>by simp only [Tm.ats,List.length_nil,Int.pow_zero];omega
 | t :: ts,a,ho,h=>by
  obtain ⟨v1,v2⟩:=Zkc hw hf t ho.1.2
  have hm : 0≤a*w.size:=Int.mul_nonneg h (by omega)
  obtain ⟨p1,p2⟩:=Zjt hw hf ts (a*w.size+t.val w f) ho.2 (by omega)
  refine ⟨p1,Int.lt_of_lt_of_le p2 ?_⟩
  have e1:(a+1)*w.size ^ (t :: ts).length=((a+1)*w.size)*w.size ^ ts.length:=by
   rw [List.length_cons,Int.pow_succ,Int.mul_comm (w.size ^ ts.length),Int.mul_assoc]
  rw [e1]
  refine Int.mul_le_mul_of_nonneg_right ?_ (Int.le_of_lt (Int.pow_pos (by omega)))
  rw [Int.add_mul,Int.one_mul];omega
theorem Zu6 {w:Wo} {f:Int→Int}:∀ (ts:List Tm) (i:Nat) (hi:i<ts.length) (a:Int),Tm.ats w f (ts.take (i+1)) a=Tm.ats w f (ts.take i) a*w.size+ts[i].val w f
 | t :: ts,0,_,a=>by simp [Tm.ats]
 | t :: ts,i+1,hi,a=>by
  simp only [List.take_succ_cons,Tm.ats,List.getElem_cons_succ]
  exact Zu6 ts i (by simpa using hi) _
theorem Zye {s:Int} (h1 : 1≤s) (h2:s≤4) {k:Nat} (hk:k≤4) : 1≤s ^ k∧s ^ k≤256:=(Zpf s h1 h2 k hk).2
theorem Yct {w:Wo} {f:Int→Int} (hw : 1≤w.size) (hw4:w.size≤4) (hf:∀ v,0≤f v∧f v<w.size) {ts:List Tm} (ho:Tm.oksW w ts) (hl:ts.length≤4) (i:Nat) : 0≤Tm.ats w f (ts.take i) 0∧Tm.ats w f (ts.take i) 0<256:=by
 obtain ⟨p1,p2⟩:=Zjt hw hf (ts.take i) 0 (Zph ho i) (by omega)
 have hlt:(ts.take i).length≤4:=by rw [List.length_take];omega
 have:=(Zye hw hw4 hlt).2
 omega
mutual
def Tm.allV (p:Int→Prop):Tm→Prop
 | .mk h ts=>(h<0→p (-1 - h))∧Tm.allVs p ts
def Tm.allVs (p:Int→Prop):List Tm→Prop
 | []=>True
 | t :: ts=>t.allV p∧Tm.allVs p ts
end
theorem Znz {p:Int→Prop}:∀ {ts:List Tm},Tm.allVs p ts→∀ (i:Nat) (hi:i<ts.length),ts[i].allV p
 | t :: ts,h,0,_=>h.1
 | t :: ts,h,i+1,hi=>Znz h.2 i (by simpa using hi)
theorem Zur {p:Int→Prop}:∀ (ts:List Tm),(∀ (i:Nat) (hi:i<ts.length),ts[i].allV p)→Tm.allVs p ts
 | [],_=>trivial
 | t :: ts,h=>⟨h 0 (by simp),Zur ts fun i hi=>h (i+1) (by simpa using hi)⟩
theorem Yh7 {o:List Int} {v x:Int}:x∈add1 o v↔x∈o∨x=v:=by
 unfold add1;split
 ·constructor
  ·exact .inl
  ·rintro (h | rfl)<;>assumption
 ·simp
theorem Zi6:∀ (l o:List Int) (x:Int),x∈addNew o l↔x∈o∨x∈l
 | [],o,x=>by simp [addNew]
 | v :: l,o,x=>by
  have h:addNew o (v :: l)=addNew (add1 o v) l:=rfl
  rw [h,Zi6 l,Yh7,List.mem_cons,or_assoc]
mutual
theorem Zdq {p:Int→Prop}:∀ t:Tm,(∀ v∈t.vars,p v)↔t.allV p
 | .mk h ts=>by
  simp only [Tm.vars,Tm.allV]
  rw [Zkm ts]
  refine and_congr_left fun _=>?_
  split
  ·simp_all
  ·rename_i hn;simp [hn]
theorem Zkm {p:Int→Prop}:∀ (ts:List Tm) (o:List Int),(∀ v∈Tm.varsL ts o,p v)↔(∀ v∈o,p v)∧Tm.allVs p ts
 | [],o=>by simp [Tm.varsL,Tm.allVs]
 | t :: ts,o=>by
  simp only [Tm.varsL,Tm.allVs]
  rw [Zkm ts,← and_assoc]
  refine and_congr_left fun _=>?_
  rw [← Zdq t]
  simp only [Zi6]
  constructor
  ·exact fun h=>⟨fun v hv=>h v (.inl hv),fun v hv=>h v (.inr hv)⟩
  ·rintro ⟨h1,h2⟩ v (hv | hv)
   ·exact h1 v hv
   ·exact h2 v hv
end
def ofL (of:List Int) (v:Int):Int:=if v<of.length then of.getD v.toNat 0 else 0
theorem Zcf {g:List Sy} {w:Wo} (h:worldOk g w=true):sigOk g=true∧1≤w.size∧w.size≤4∧w.rows.length=g.length∧(∀ i,i<g.length→rowOkAt g w i=true)∧(w.rows.getD 0 []).getD 0 0=1:=by
 simp only [worldOk,Bool.and_eq_true,Bool.not_eq_true',Bool.or_eq_false_iff,Bool.not_eq_false',decide_eq_true_eq,decide_eq_false_iff_not] at h
 obtain ⟨⟨⟨⟨⟨h1,h2⟩,h3⟩,h4⟩,h5⟩,h6⟩:=h
 refine ⟨h1,by omega,by omega,by omega,fun i hi=>List.all_eq_true.1 h5 i (by simpa using hi),h6⟩
theorem Zqo {g:List Sy} {w:Wo} (h:worldOk g w=true) {hd:Int} (h0:¬ hd<0) (h1:hd<g.length) :
  (symAt g hd).arity≤4∧0≤(symAt g hd).arity∧((w.rows.getD hd.toNat []).length:Int)=w.size ^ (symAt g hd).arity.toNat∧((symAt g hd).truth=false→∀ v∈w.rows.getD hd.toNat [],0≤v∧v<w.size):=by
 obtain ⟨q1,q2,q3,q4,q5,q6⟩:=Zcf h
 have hi:hd.toNat<g.length:=by omega
 have hr:=q5 hd.toNat hi
 have hs:=Znu (Zuv q1 hi)
 have e:symAt g hd=g[hd.toNat]:=Zd5 hi
 simp only [rowOkAt,rowOk,Bool.and_eq_true,Bool.not_eq_true',Bool.or_eq_false_iff,Bool.not_eq_false',decide_eq_true_eq,decide_eq_false_iff_not,List.all_eq_true,show g.getD hd.toNat Sy.dflt=symAt g hd from rfl] at hr
 refine ⟨by omega,by rw [e];omega,hr.1.2,fun ht v hv=>?_⟩
 have:=hr.2 v hv
 simp only [mostOf,ht,Bool.false_eq_true,if_false] at this
 omega
theorem Zu5 {g:List Sy} {w:Wo} (h:worldOk g w=true) (t:Tm) (hk:t.known g=true) (ht:t.truth g=false):t.thingW w:=by
 obtain ⟨hd,ts⟩:=t
 by_cases c:hd<0
 ·exact .inl c
 ·simp only [Tm.known,decide_eq_false c,Bool.false_or,Bool.and_eq_true,Bool.not_eq_true',decide_eq_false_iff_not] at hk
  simp only [Tm.truth,Tm.head,Bool.and_eq_false_iff,decide_eq_false_iff_not] at ht
  refine .inr ((Zqo h c (by omega)).2.2.2 ?_)
  rcases ht with (h' | h') | h'
  ·exact absurd (of_decide_eq_false h') (by omega)
  ·exact absurd (of_decide_eq_false h') (by omega)
  ·exact h'
mutual
theorem Zz5 {g:List Sy} {w:Wo} (h:worldOk g w=true):∀ t:Tm,t.known g=true→t.things g=true→t.okW w
 | .mk hd ts,hk,ht=>by
  by_cases c:hd<0
  ·exact .inl c
  ·simp only [Tm.known,decide_eq_false c,Bool.false_or,Bool.and_eq_true,Bool.not_eq_true',decide_eq_false_iff_not,decide_eq_true_eq] at hk
   obtain ⟨⟨k1,k2⟩,k3⟩:=hk
   have hlt:hd<g.length:=by omega
   obtain ⟨f1,f2,f3,_⟩:=Zqo h c hlt
   obtain ⟨_,_,_,q4,_,_⟩:=Zcf h
   refine .inr ⟨by omega,by omega,?_,Zyd h ts k3 (by simpa [Tm.things] using ht)⟩
   rw [f3,← k2];simp
theorem Zyd {g:List Sy} {w:Wo} (h:worldOk g w=true):∀ ts:List Tm,Tm.knowns g ts=true→Tm.thingsL g ts=true→Tm.oksW w ts
 | [],_,_=>trivial
 | t :: ts,hk,ht=>by
  simp only [Tm.knowns,Tm.thingsL,Bool.and_eq_true,Bool.not_eq_true'] at hk ht
  exact ⟨⟨Zz5 h t hk.1 ht.1.2,Zu5 h t hk.1 ht.1.1⟩,Zyd h ts hk.2 ht.2⟩
end
theorem Zb8 {g:List Sy} {t:Tm} (h:t.term g=0):t.check=0∧t.known g=true∧t.things g=true:=by
 unfold Tm.term at h
 split at h
 ·omega
 ·split at h
  ·rename_i h2;exact absurd h h2
  ·rename_i h2
   split at h
   ·omega
   ·split at h
    ·omega
    ·rename_i h3 h4
     exact ⟨by simpa using h2,by simpa using h3,by simpa using h4⟩
def Li.holds (w:Wo) (f:Int→Int) (l:Li):Bool:=(l.l.val w f==l.r.val w f) != l.neg
def anyHolds (w:Wo) (f:Int→Int) (c:List Li):Bool:=c.any fun l=>l.holds w f
end Go.Proofs
namespace Go.Proofs
open Go Go.Abs
attribute [local go_sem] Nat.reduceAdd Nat.reduceSub Nat.reduceMul Nat.reduceLeDiff Nat.reduceEqDiff Nat.reduceBEq
set_option maxRecDepth 10000 in
set_option maxHeartbeats 800000 in
theorem Zhh (w:Wo) (of:List Int) (f:Int→Int) (hw : 1≤w.size) (hw4:w.size≤4) (hf:∀ v,0≤f v∧f v<w.size) (t:Tm) :
  t.fit→t.size<2 ^ 62→t.okW w→t.allV (fun v=>f v=ofL of v)→CallEq Tryz.prog 115 [w.toA, .ps 1 (ints of),t.toA] (.int .i64 (t.val w f)):=by
 induction t using Tm.rec_args with
 | h h ts ih =>
 intro hfit hs ho ha
 simp only [Tm.size] at hs
 have hlen:=Zaj ts
 have h64 : -9223372036854775808≤h∧h≤9223372036854775807:=hfit.1
 refine CallEq.begin (rs:=[.tmp 6]) (m:=50) 1000 Tryz.func115 rfl rfl rfl (by decide) trivial ?_
 by_cases c1:h<0
 ·have e1:Tm.val w f (.mk h ts)=ofL of (-1 - h):=by simp only [Tm.val,if_pos c1];exact ha.1 c1
  have e2:IntKind.i64.wrap (-1 - h) = -1 - h:=Zab (by omega)
  rw [e1]
  by_cases c2 : -1 - h<(of.length:Int)
  ·have hk:(-1 - h).toNat<of.length:=by omega
   have e3:(ints of).getD (-1 - h).toNat .undef = .int .i64 of[(-1 - h).toNat]:=Zbe hk
   have e4:ofL of (-1 - h)=of[(-1 - h).toNat]:=by rw [ofL,if_pos c2,Ziv hk]
   rw [e4]
   simp only [go_sem,Zee,Za6,Tm.head,Tm.args,c1,e2,Zad,c2,e3]
   omega
  ·have e4:ofL of (-1 - h)=0:=by rw [ofL,if_neg c2]
   rw [e4]
   simp only [go_sem,Zee,Za6,Tm.head,Tm.args,c1,e2,Zad,c2]
 ·have e1:Tm.val w f (.mk h ts)=(w.rows.getD h.toNat []).getD (Tm.ats w f ts 0).toNat 0:=by simp only [Tm.val,if_neg c1]
  obtain ⟨o1,o2,o3,o4⟩:=ho.resolve_left c1
  rw [e1]
  simp only [go_sem,Zee,Za6,Tm.head,Tm.args,c1]
  refine EvK.loopI (ι:={i:Nat // i≤ts.length}) 1000 (fun i=>mkT 53 [(1, .ps 1 (ints of)),(3, .ptr 0 0),(5, .ptr 1 0),(8, .int .i64 (Tm.ats w f (ts.take i.1) 0)),(9, .int .i64 i.1)]) (fun _=>[some (.var [.int .i64 w.size, .ps 1 (rowsA w.rows)]),some (.var [.int .i64 h, .ps 2 (ts.map Tm.toA)])]) (fun i=>ts.length - i.1) ⟨0,by simp⟩ ?_ (fun _=>Nat.zero_le _) ?_
  ·simp only [go_sem,Za0,Za4,Zb5,Int.natCast_zero,List.take_zero,Tm.ats];decide
  ·rintro ⟨i,hi⟩
   simp only [go_sem,List.length_map]
   refine ⟨fun hlt=>?_,fun hge=>?_⟩
   ·have hlt':i<ts.length:=by omega
    obtain ⟨ho1,ho2⟩:=Zup o4 i hlt'
    obtain ⟨a1,a2⟩:=Yct hw hw4 hf o4 o2 i
    obtain ⟨b1,b2⟩:=Zkc hw hf _ ho2
    have hsz:=Zb2 ts i hlt'
    have hsn:=Zu6 (f:=f) (w:=w) ts i hlt' 0
    have m1 : 0≤Tm.ats w f (ts.take i) 0*w.size:=Int.mul_nonneg a1 (by omega)
    have m2:Tm.ats w f (ts.take i) 0*w.size≤256*4:=Int.mul_le_mul (by omega) hw4 (by omega) (by omega)
    refine EvK.draw [] 2 2 mixed rfl rfl (Nat.le_refl _) ?_
    simp only [go_sem,padS,List.length_map,Int.toNat_natCast,Zaq hlt',Za8,Nat.le_refl]
    rw [← Za6]
    (repeat ((with_reducible refine And.intro ?_ ?_); ·omega))
    refine Zar (ih i hlt' (Zit hfit.2 i hlt') (by omega) ho1 (Znz ha.2 i hlt')) ?_ ?_ ?_
    ·exact Za1 _ _ _
    ·simp [go_sem,Zb5,Za4,Za7,Zeo]
    simp only [go_sem]
    refine EvK.go 1000 ?_
    simp only [go_sem]
    refine ⟨⟨i+1,hlt'⟩,?_,by simp only;omega⟩
    simp only [go_sem,Za0,Za4,Zb5,Nat.zero_lt_one]
    rw [Zab (n:=Tm.ats w f (ts.take i) 0*w.size) (by omega),Zab (by omega),Zab (by omega),hsn];exact ⟨⟨rfl,rfl⟩,by decide⟩
   ·refine EvK.go 1000 ?_
    have hi':i=ts.length:=by omega
    subst hi'
    rw [List.take_length]
    have hrl:h.toNat<w.rows.length:=by omega
    have hr0:(rowsA w.rows).getD h.toNat .undef = .ps 1 (ints w.rows[h.toNat]):=Zh9 hrl
    have hr1:=Ziu hrl
    rw [hr1] at o3 ⊢
    obtain ⟨q1,q2⟩:=Zjt hw hf ts 0 o4 (by omega)
    have hk:(Tm.ats w f ts 0).toNat<w.rows[h.toNat].length:=by omega
    have hr2:(ints w.rows[h.toNat]).getD (Tm.ats w f ts 0).toNat .undef = .int .i64 w.rows[h.toNat][(Tm.ats w f ts 0).toNat]:=Zbe hk
    rw [Ziv hk]
    simp only [go_sem,Zbh,hr0,Zad,hr2]
    (repeat ((with_reducible refine And.intro ?_ ?_); ·omega))
    omega
theorem Zry (w:Wo) (of:List Int) (f:Int→Int) (hw : 1≤w.size) (hw4:w.size≤4) (hf:∀ v,0≤f v∧f v<w.size) (l:Li) (h1:l.l.fit) (h2:l.r.fit) (h3:l.l.size<2 ^ 62) (h4:l.r.size<2 ^ 62) (h5:l.l.okW w) (h6:l.r.okW w)
  (h7:l.l.allV (fun v=>f v=ofL of v)) (h8:l.r.allV (fun v=>f v=ofL of v)):CallEq Tryz.prog 77 [w.toA, .ps 1 (ints of),l.toA] (.bool (l.holds w f)):=by
 refine CallEq.begin (rs:=[.tmp 6]) (m:=18) 1000 Tryz.func77 rfl rfl rfl (by decide) trivial ?_
 simp only [go_sem,Zee,Li.toA,Li.cs]
 refine EvK.draw [] 2 2 mixed rfl rfl (Nat.le_refl _) ?_
 simp only [go_sem,padS,Nat.le_refl]
 rw [← Za6]
 refine Zar (Zhh w of f hw hw4 hf l.l h1 h3 h5 h7) (Za1 _ _ _) (by simp [go_sem,Zeo,Za4,Za7]) ?_
 simp only [go_sem,Nat.le_refl]
 rw [← Za6]
 refine Zar (Zhh w of f hw hw4 hf l.r h2 h4 h6 h8) (Za1 _ _ _) (by simp [go_sem,Zeo,Za4,Za7]) ?_
 simp only [go_sem]
 refine EvK.go 1000 ?_
 simp only [go_sem]
 simp only [Li.holds]
 cases l.neg<;>by_cases c:Tm.val w f l.l=Tm.val w f l.r<;>simp [c]
end Go.Proofs
namespace Go.Proofs
open Go Go.Abs
theorem Zor {s most:Int} (h1 : 1≤s) (h2:s≤4) (hm:most<2 ^ 40):∀ (k:Nat) (n:Int),1≤n→manyL s most k n≤most→manyL s most k n=n*s ^ k
 | 0,n,_,_=>by simp [manyL]
 | k+1,n,hn,h=>by
  by_cases c:n≤most
  ·simp only [manyL,if_pos c] at h ⊢
   have b1:n*1≤n*s:=Int.mul_le_mul_of_nonneg_left h1 (by omega)
   have b2:n*s≤n*4:=Int.mul_le_mul_of_nonneg_left h2 (by omega)
   rw [Zab (by omega)] at h ⊢
   rw [Zor h1 h2 hm k (n*s) (by omega) h,Int.pow_succ,Int.mul_comm (s ^ k) s,Int.mul_assoc]
  ·rw [Zlr _ _ c] at h;omega
theorem Zkk (t:Tm):t.good=true→t.allV (fun v=>0≤v∧v<256):=by
 induction t using Tm.rec_args with
 | h h ts ih =>
  intro hg
  have hg2:=hg
  simp only [Tm.good,Bool.and_eq_true,Bool.not_eq_true',Bool.or_eq_false_iff,decide_eq_false_iff_not] at hg
  refine ⟨fun hn=>by omega,Zur ts fun i hi=>ih i hi ?_⟩
  have:=hg.2
  rw [Zfq ts i hi,Bool.and_eq_true,Bool.and_eq_true] at this
  exact this.2.1
theorem Zi0 {t:Tm} (h:t.check=0):t.good=true∧t.size≤400∧t.depth≤40:=by
 unfold Tm.check at h
 split at h
 ·omega
 ·split at h
  ·omega
  ·split at h
   ·exact ⟨by assumption,by omega,by omega⟩
   ·omega
theorem Zgc {g:List Sy}:∀ {c:List Li},litsCheck g c=0→∀ (i:Nat) (h:i<c.length),c[i].check g=0
 | l :: c,h,0,_=>by
  simp only [litsCheck] at h
  split at h
  ·assumption
  ·rename_i h2;simpa using h2
 | l :: c,h,i+1,hi=>by
  simp only [litsCheck] at h
  split at h
  ·rename_i h2;exact absurd h h2
  ·exact Zgc h i (by simpa using hi)
theorem Zmz {g:List Sy} {l:Li} (h:l.check g=0):l.l.term g=0∧l.r.term g=0:=by
 unfold Li.check at h
 split at h
 ·rename_i h2;exact absurd h h2
 ·split at h
  ·rename_i h2;exact absurd h h2
  ·rename_i h2 h3;exact ⟨by simpa using h2,by simpa using h3⟩
theorem Zf4 {g:List Sy} {c:List Li} (h:clauseCheck g c=0):c.length≤32∧∀ (i:Nat) (h:i<c.length),c[i].l.term g=0∧c[i].r.term g=0:=by
 unfold clauseCheck at h
 split at h
 ·omega
 ·split at h
  ·omega
  ·exact ⟨by omega,fun i hi=>Zmz (Zgc h i hi)⟩
theorem Zo0 {p:Int→Prop}:∀ (c:List Li),Tm.allVs p (sides c)↔∀ (i:Nat) (h:i<c.length),c[i].l.allV p∧c[i].r.allV p
 | []=>by simp [sides,Tm.allVs]
 | l :: c=>by
  have e:sides (l :: c)=l.l :: l.r :: sides c:=rfl
  rw [e]
  simp only [Tm.allVs]
  rw [Zo0 c]
  constructor
  ·rintro ⟨h1,h2,h3⟩ i hi
   cases i with
   | zero=>exact ⟨h1,h2⟩
   | succ i=>exact h3 i (by simpa using hi)
  ·intro h
   have h0:=h 0 (by simp)
   exact ⟨h0.1,h0.2,fun i hi=>h (i+1) (by simpa using hi)⟩
theorem Zgv {p:Int→Prop} (c:List Li):(∀ v∈clauseVars c,p v)↔∀ (i:Nat) (h:i<c.length),c[i].l.allV p∧c[i].r.allV p:=by
 rw [clauseVars,Zkm,← Zo0]
 simp
theorem Zm5:∀ {c:List Li},Tm.fits (sides c)→∀ (i:Nat) (h:i<c.length),c[i].l.fit∧c[i].r.fit
 | l :: c,h,0,_=>⟨h.1,h.2.1⟩
 | l :: c,h,i+1,hi=>Zm5 (c:=c) h.2.2 i (by simpa using hi)
theorem Zkp:∀ {c:List Li} (i:Nat) (h:i<c.length),c[i].l.size≤Tm.sizes (sides c)∧c[i].r.size≤Tm.sizes (sides c)
 | l :: c,0,_=>by
  have e:sides (l :: c)=l.l :: l.r :: sides c:=rfl
  rw [e];simp only [Tm.sizes,List.getElem_cons_zero];omega
 | l :: c,i+1,hi=>by
  have e:sides (l :: c)=l.l :: l.r :: sides c:=rfl
  have:=Zkp (c:=c) i (by simpa using hi)
  rw [e];simp only [Tm.sizes,List.getElem_cons_succ];omega
theorem Ygk {g:List Sy} {w:Wo} {c:List Li} (hw:worldOk g w=true) (h:clauseCheck g c=0) (hf:Tm.fits (sides c)) (i:Nat) (hi:i<c.length):c[i].l.okW w∧c[i].r.okW w:=by
 obtain ⟨h1,h2⟩:=(Zf4 h).2 i hi
 obtain ⟨_,k1,t1⟩:=Zb8 h1
 obtain ⟨_,k2,t2⟩:=Zb8 h2
 exact ⟨Zz5 hw _ k1 t1,Zz5 hw _ k2 t2⟩
theorem Zrn {g:List Sy} {c:List Li} (h:clauseCheck g c=0):∀ v∈clauseVars c,0≤v∧v<256:=by
 rw [Zgv (p:=fun v=>0≤v∧v<256)]
 intro i hi
 obtain ⟨h1,h2⟩:=(Zf4 h).2 i hi
 exact ⟨Zkk _ (Zi0 (Zb8 h1).1).1,Zkk _ (Zi0 (Zb8 h2).1).1⟩
theorem Ydn (l:List Int) (i:Nat) (n:Int):(ints l).set i (.int .i64 n)=ints (l.set i n):=by simp [ints,List.map_set]
theorem Ydl (n:Nat):List.replicate n (AVal.int .i64 0)=ints (List.replicate n 0):=by simp [ints]
theorem Zxd {vs:List Int} (h:vs.Nodup) {i:Nat} (hi:i<vs.length):vs[i] ∉ vs.take i:=by
 intro hm
 obtain ⟨j,hj,e⟩:=List.mem_take_iff_getElem.1 hm
 have:=(List.getElem_inj h (h₀:=by omega) (h₁:=hi)).1 e
 omega
end Go.Proofs
namespace Go.Proofs
open Go Go.Abs
attribute [local go_sem] Nat.reduceAdd Nat.reduceSub Nat.reduceMul Nat.reduceLeDiff Nat.reduceEqDiff Nat.reduceBEq
def idxF {α:Type} (p : α→Bool):List α→Int→Int
 | [],_=>-1
 | a :: l,i=>if p a then i else idxF p l (i+1)
theorem Zg8 {α:Type} (p : α→Bool):∀ (l:List α) (i:Int),0≤i→decide (0≤idxF p l i)=l.any p
 | [],i,_=>by simp [idxF]
 | a :: l,i,h=>by
  simp only [idxF,List.any_cons]
  by_cases c:p a=true
  ·simp [c,h]
  ·rw [Bool.not_eq_true] at c
   simp only [c,Bool.false_eq_true,if_false,Bool.false_or];exact Zg8 p l (i+1) (by omega)
theorem Zqt (σ:Store) (c:AVal) (p:Sy→Bool) (l:List Sy) (hl:l.length<2 ^ 62) (hs:lowSo σ.length σ) (hc:c.low σ.length)
  (hp:∀ (i:Nat) (h:i<l.length),VCall Tryz.prog c [l[i].toA] σ (fun r σ'=>r = .bool (p l[i])∧σ' = σ)) :
  VCall Tryz.prog (.fn 139 [] []) [.ps 4 (syms l),c] σ (fun r σ'=>r = .int .i64 (idxF p l 0)∧σ' = σ):=by
 refine VCall.begin (rs:=[.tmp 4]) (m:=17) 1000 Tryz.func139 rfl rfl rfl rfl rfl ?_
 simp only [go_sem]
 refine EvK.loopI (ι:={i:Nat // i≤l.length∧idxF p (l.drop i) i=idxF p l 0}) 1000 (fun i=>mkT 19 [(0, .ps 4 (syms l)),(1,c),(7, .int .i64 l.length),(8, .int .i64 i.1)]) (fun _=>σ) (fun i=>l.length - i.1) ⟨0,by simp⟩ ?_ (fun _=>Nat.le_refl _) ?_
 ·simp only [go_sem,Za5,Zal,hc,hs,Int.natCast_zero]
  exact Za9 σ
 ·rintro ⟨i,hi,hpre⟩
  by_cases hlt:(i:Int)<l.length
  ·have hlt':i<l.length:=by omega
   have hd:idxF p (l.drop i) i=if p l[i] then (i:Int) else idxF p (l.drop (i+1)) ((i:Int)+1):=by
    rw [List.drop_eq_getElem_cons hlt'];rfl
   simp only [go_sem,hlt,Zal,Int.toNat_natCast,Zb6 hlt',Zaz,Nat.le_refl]
   (repeat ((with_reducible refine And.intro ?_ ?_); ·omega))
   refine (hp i hlt').mono ?_
   rintro r σ' ⟨rfl,rfl⟩
   refine EvK.go 1000 ?_
   cases e:p l[i] with
   | true =>
    rw [hd,e,if_pos rfl] at hpre
    simp only [go_sem]
    refine EvK.go 1000 ?_
    simp only [go_sem,← hpre]
    rw [Zax];exact ⟨σ',Za9 σ',Nat.le_refl _,hs,trivial,rfl,rfl⟩
   | false =>
    rw [hd,e,if_neg (by decide)] at hpre
    simp only [go_sem]
    refine ⟨⟨i+1,hlt',hpre⟩,?_,by simp only;omega⟩
    simp only [go_sem,Za5,hc,hs]
    rw [Zab (by omega)];exact ⟨rfl,Za9 σ'⟩
  ·have hi':i=l.length:=by omega
   subst hi'
   rw [List.drop_length] at hpre
   simp only [go_sem,hlt]
   refine EvK.go 1000 ?_
   simp only [go_sem,← hpre]
   rw [Zax];exact ⟨σ,Za9 σ,Nat.le_refl _,hs,trivial,rfl,rfl⟩
theorem Zla (σ:Store) (c:AVal) (p:Sy→Bool) (l:List Sy) (hl:l.length<2 ^ 62) (hs:lowSo σ.length σ) (hc:c.low σ.length)
  (hp:∀ (i:Nat) (h:i<l.length),VCall Tryz.prog c [l[i].toA] σ (fun r σ'=>r = .bool (p l[i])∧σ' = σ)) :
  VCall Tryz.prog (.fn 100 [] []) [.ps 4 (syms l),c] σ (fun r σ'=>r = .bool (l.any p)∧σ' = σ):=by
 refine VCall.begin (rs:=[.tmp 4]) (m:=7) 1000 Tryz.func100 rfl rfl rfl rfl rfl ?_
 simp only [go_sem]
 refine (Zqt σ c p l hl hs hc hp).mono ?_
 rintro r σ' ⟨rfl,rfl⟩
 refine EvK.go 1000 ?_
 simp only [go_sem]
 rw [Zax,Zg8 p l 0 (by omega)];exact ⟨σ',Za9 σ',Nat.le_refl _,hs,trivial,rfl,rfl⟩
theorem Zr7 (x y:Sy):VCall Tryz.prog (.fn 101 [] [.ptr 0 0]) [y.toA] [some (.var [.str x.name, .int .i64 x.arity, .int .i64 x.weight, .bool x.truth])]
  (fun r σ'=>r = .bool (y.name.toList==x.name.toList)∧σ'=[some (.var [.str x.name, .int .i64 x.arity, .int .i64 x.weight, .bool x.truth])]):=by
 refine VCall.begin (rs:=[.tmp 3]) (m:=7) 1000 Tryz.func101 rfl rfl rfl rfl rfl ?_
 simp only [go_sem,Yuj]
 rw [Zax]
 exact ⟨[some (.var [.str x.name, .int .i64 x.arity, .int .i64 x.weight, .bool x.truth])],by simp [go_sem],Nat.le_refl _,by simp [go_sem],trivial,rfl,rfl⟩
theorem Zk9 (g:List Sy):CallEq Tryz.prog 63 [.ps 4 (syms g)] (.int .i64 (if sigOk g then 0 else 1)):=by
 refine CallEq.begin (rs:=[.tmp 2]) (m:=65) 1000 Tryz.func63 rfl rfl rfl (by decide) trivial ?_
 by_cases c1:(g.length:Int)<1
 ·simp only [go_sem,Zal,c1,sigOk]
 by_cases c2 : 256<(g.length:Int)
 ·simp only [go_sem,Zal,c1,c2,sigOk]
 have h0 : 0<g.length:=by omega
 have e0:(syms g).getD 0 .undef=g[0].toA:=Zb6 h0
 have f1:decide ((g.length:Int)<1)=false:=decide_eq_false c1
 have f2:decide (256<(g.length:Int))=false:=decide_eq_false c2
 have hsg:sigOk g=((List.range g.length).all (okAt g)&&isTrue g[0]):=by rw [sigOk,f1,f2,Zd5 h0];simp
 have bad:∀ i,i<g.length→okAt g i=false→sigOk g=false:=fun i hi hb=>by
  rw [hsg,Zf8 (p:=okAt g) hi hb];rfl
 have hT:(g[0].name.toList==ByteArray.toList { data:=#[36,116,114,117,101] }&&(g[0].arity==0&&(g[0].weight==1&&g[0].truth==true)))=isTrue g[0]:=by simp [isTrue,trueName]
 simp only [go_sem,Zal,c1,c2,Int.toNat_zero,e0,Zaz,Nat.le_refl,Zrp,eqCells,eqCell,hT]
 refine ⟨by omega,fun h=>?_,fun h=>?_⟩
 ·have hf:isTrue g[0]=false:=by simpa using h
  have:sigOk g=false:=by rw [hsg,hf,Bool.and_false]
  rw [this];rfl
 have hTt:isTrue g[0]=true:=by simpa using h
 simp only [go_sem,hTt]
 refine EvK.loopI (ι:={i:Nat // i≤g.length∧(List.range i).all (okAt g)=true}) 1000 (fun i=>mkT 66 [(0, .ps 4 (syms g)),(21, .ps 4 (syms g)),(22, .int .i64 g.length),(23, .int .i64 i.1)]) (fun _=>[]) (fun i=>g.length - i.1) ⟨0,by simp⟩ ?_ (fun _=>Nat.zero_le _) ?_
 ·simp only [go_sem,Za5,Int.natCast_zero,Zal]
 ·rintro ⟨i,hi,hpre⟩
  by_cases hlt:(i:Int)<g.length
  ·have hlt':i<g.length:=by omega
   have hga:=Zd5 hlt'
   have hg0:(syms g).getD i .undef=g[i].toA:=Zb6 hlt'
   have htk:List.take i (syms g)=syms (g.take i):=by simp [syms,List.map_take]
   generalize hx:g[i]=x at hga hg0
   simp only [go_sem,Zal,hlt,Int.toNat_natCast,hg0,Zaz,Nat.le_refl]
   (repeat ((with_reducible refine And.intro ?_ ?_); ·omega))
   rw [show List.take (i - 0) (syms g)=syms (g.take i) from htk]
   refine (Zla _ _ (fun y=>y.name.toList==x.name.toList) (g.take i) (by rw [List.length_take];omega) ?_ ?_ ?_).mono ?_
   ·simp [go_sem]
   ·simp [go_sem]
   ·exact fun j hj=>Zr7 x _
   rintro r σ' ⟨rfl,rfl⟩
   refine EvK.go 1000 ?_
   have hfr:fresh g i = !(g.take i).any (fun y=>y.name.toList==x.name.toList):=by
    rw [fresh,hga,List.all_eq_not_any_not];simp
   have hok:okAt g i=(x.right && !(g.take i).any (fun y=>y.name.toList==x.name.toList)):=by rw [okAt,hga,hfr]
   have hbad:∀ (hb:x.right=false∨(g.take i).any (fun y=>y.name.toList==x.name.toList)=true),(if sigOk g=true then (0:Int) else 1)=1:=fun hb=>by
    rw [bad i hlt' (by rw [hok];rcases hb with h | h<;>simp [h])];rfl
   generalize (g.take i).any (fun y=>y.name.toList==x.name.toList)=tw at *
   by_cases d1:(x.name.size:Int)<1
   ·simp only [go_sem,Zd3,d1]
    refine EvK.go 1000 ?_
    simp only [go_sem,hbad (.inl (Zd6 (.inl d1)))]
   by_cases d2 : 64<(x.name.size:Int)
   ·simp only [go_sem,Zd3,d1,d2]
    refine EvK.go 1000 ?_
    simp only [go_sem,hbad (.inl (Zd6 (.inr (.inl d2))))]
   cases tw with
   | true =>
    simp only [go_sem,Zd3,d1,d2]
    refine EvK.go 1000 ?_
    simp only [go_sem,hbad (.inr rfl)]
   | false =>
   by_cases d3:x.arity<0
   ·simp only [go_sem,Zd3,d1,d2,d3]
    refine EvK.go 1000 ?_
    simp only [go_sem,hbad (.inl (Zd6 (.inr (.inr (.inl d3)))))]
   by_cases d4 : 8<x.arity
   ·simp only [go_sem,Zd3,d1,d2,d3,d4]
    refine EvK.go 1000 ?_
    simp only [go_sem,hbad (.inl (Zd6 (.inr (.inr (.inr (.inl d4))))))]
   by_cases d5:x.weight<1
   ·simp only [go_sem,Zd3,d1,d2,d3,d4,d5]
    refine EvK.go 1000 ?_
    simp only [go_sem,hbad (.inl (Zd6 (.inr (.inr (.inr (.inr (.inl d5)))))))]
   by_cases d6 : 1000<x.weight
   ·simp only [go_sem,Zd3,d1,d2,d3,d4,d5,d6]
    refine EvK.go 1000 ?_
    simp only [go_sem,hbad (.inl (Zd6 (.inr (.inr (.inr (.inr (.inr d6)))))))]
   have hxr:=Zv9 ⟨d1,d2,d3,d4,d5,d6⟩
   simp only [go_sem,Zd3,d1,d2,d3,d4,d5,d6]
   refine ⟨⟨i+1,hlt',by rw [Zdw,hpre,hok,hxr];rfl⟩,?_,by simp only;omega⟩
   simp only [go_sem,Za5,Zal]
   rw [Zab (by omega)];rfl
  ·have hi':i=g.length:=by omega
   simp only [go_sem,hlt]
   subst hi'
   refine EvK.go 1000 ?_
   rw [hsg,hpre,hTt]
   simp only [go_sem]
end Go.Proofs
namespace Go.Proofs
open Go Go.Abs
mutual
def Tm.pre:Tm→Int→List (Int×Tm)
 | .mk h ts,d=>(d, .mk h ts) :: Tm.pres ts (d+1)
def Tm.pres:List Tm→Int→List (Int×Tm)
 | [],_=>[]
 | t :: ts,d=>t.pre d++Tm.pres ts d
end
mutual
theorem Zjj:∀ (t:Tm) (d:Int),(t.pre d).length=t.size
 | .mk h ts,d=>by simp only [Tm.pre,List.length_cons,Tm.size];rw [Znf ts];omega
theorem Znf:∀ (ts:List Tm) (d:Int),(Tm.pres ts d).length=Tm.sizes ts
 | [],_=>rfl
 | t :: ts,d=>by simp only [Tm.pres,List.length_append,Tm.sizes];rw [Zjj t,Znf ts]
end
def rem (stk:List (Int×Tm)):List (Int×Tm):=stk.flatMap fun x=>x.2.pre x.1
theorem Yjf:rem []=[]:=rfl
theorem Zj3 (x:Int×Tm) (r:List (Int×Tm)):rem (x :: r)=x.2.pre x.1++rem r:=rfl
theorem Yk1 (t:Tm) (d:Int):rem [(d,t)]=t.pre d:=by rw [Zj3,Yjf,List.append_nil]
theorem Zuk (d:Int) (ts:List Tm) (r:List (Int×Tm)):rem (ts.map (fun t=>(d,t))++r)=Tm.pres ts d++rem r:=by
 induction ts with
 | nil=>rfl
 | cons t ts ih =>
  rw [List.map_cons,List.cons_append,Zj3,ih,← List.append_assoc];rfl
theorem Zsu (stk:List (Int×Tm)):stk.length≤(rem stk).length:=by
 induction stk with
 | nil=>exact Nat.le_refl _
 | cons x r ih=>rw [Zj3,List.length_append,Zjj,List.length_cons];have:=Zuj x.2;omega
def plA (x:Int×Tm):AVal:=.agg [.int .i64 x.2.head, .ps 2 (x.2.args.map Tm.toA), .int .i64 x.1]
theorem Ycf (x:Int×Tm):(plA x).cells=[.int .i64 x.2.head, .ps 2 (x.2.args.map Tm.toA), .int .i64 x.1]:=rfl
theorem Yiq (x:Int×Tm):plA x = .agg [.int .i64 x.2.head, .ps 2 (x.2.args.map Tm.toA), .int .i64 x.1]:=rfl
theorem Zkx {n:Nat} (x:Int×Tm):(plA x).low n:=⟨trivial,Za0 _,trivial,trivial⟩
theorem Zfn {n:Nat} (l:List (Int×Tm)):lowL n (l.map plA):=Zby fun x _=>Zkx x
theorem Zbq {n:Nat} {b:List AVal}:∀ {a:List AVal},lowL n a→lowL n b→lowL n (a++b)
 | [],_,h=>h
 | _ :: _,ha,h=>⟨ha.1,Zbq ha.2 h⟩
def deepOk (T:Int) (x:Int×Tm):Prop:=1≤x.1∧x.1+x.2.size≤T
def topGood (t:Tm):Bool:=!(t.head<0&&decide (0<t.args.length)||t.head < -256||decide (1023<t.head)||decide (8<t.args.length))
def maxDeep (l:List (Int×Tm)) (a:Int):Int:=l.foldl (fun m x=>max m x.1) a
theorem Zjd (l m:List (Int×Tm)) (a:Int):maxDeep (l++m) a=maxDeep m (maxDeep l a):=List.foldl_append
mutual
theorem Ztb:∀ (t:Tm) (d a:Int),maxDeep (t.pre d) a=max a (d+t.depth - 1)
 | .mk h ts,d,a=>by
  have e:maxDeep ((Tm.mk h ts).pre d) a=maxDeep (Tm.pres ts (d+1)) (max a d):=rfl
  rw [e,Zny ts (d+1) (max a d) (by omega)]
  simp only [Tm.depth];omega
theorem Zny:∀ (ts:List Tm) (d a:Int),d - 1≤a→maxDeep (Tm.pres ts d) a=max a (d+Tm.depths ts - 1)
 | [],d,a,h=>by simp only [Tm.pres,maxDeep,List.foldl_nil,Tm.depths];omega
 | t :: ts,d,a,h=>by
  simp only [Tm.pres,Zjd,Tm.depths]
  rw [Ztb t d a,Zny ts d _ (by omega)];omega
end
mutual
theorem Zv6:∀ (t:Tm) (d:Int),(t.pre d).any (fun x=>!topGood x.2) = !t.good
 | .mk h ts,d=>by
  simp only [Tm.pre,List.any_cons,Tm.good]
  rw [Zob ts]
  simp only [topGood,Tm.head,Tm.args,Bool.not_and,Bool.not_not]
  rfl
theorem Zob:∀ (ts:List Tm) (d:Int),(Tm.pres ts d).any (fun x=>!topGood x.2) = !Tm.goods ts
 | [],d=>rfl
 | t :: ts,d=>by
  simp only [Tm.pres,List.any_append,Tm.goods]
  rw [Zv6 t,Zob ts,Bool.not_and]
end
theorem Zhn:∀ (l:List (Int×Tm)) (a:Int),0≤a→a<2 ^ 62→(∀ x∈l,x.1<2 ^ 62)→0≤maxDeep l a∧maxDeep l a<2 ^ 62
 | [],a,h0,h1,_=>⟨h0,h1⟩
 | x :: l,a,h0,h1,h=>by
  have hx:=h x (by simp)
  exact Zhn l (max a x.1) (by omega) (by omega) fun z hz=>h z (by simp [hz])
theorem Zod {α:Type} {l:List α} {k:Nat} (h:k<l.length):l.take (k+1)=l.take k++[l[k]]:=by
 rw [List.take_add_one,List.getElem?_eq_getElem h];rfl
theorem Ybl (t:Tm) (d:Int):∀ x∈t.pre d,d≤x.1∧x.1≤d+t.size:=by
 have key:∀ (t:Tm) (d:Int), ∀ x∈t.pre d,d≤x.1∧x.1≤d+t.depth - 1:=by
  intro t
  induction t using Tm.rec_args with
  | h h ts ih =>
   intro d x hx
   simp only [Tm.pre,List.mem_cons] at hx
   rcases hx with rfl | hx
   ·simp only [Tm.depth];omega
   ·have hs:∀ (us:List Tm) (e:Int),(∀ (i:Nat) (hi:i<us.length) (d:Int) (x:Int×Tm),x∈us[i].pre d→d≤x.1∧x.1≤d+us[i].depth - 1)→∀ x∈Tm.pres us e,e≤x.1∧x.1≤e+Tm.depths us - 1:=by
     intro us
     induction us with
     | nil=>intro e _ x hx;simp [Tm.pres] at hx
     | cons u us ih2 =>
      intro e hh x hx
      simp only [Tm.pres,List.mem_append] at hx
      simp only [Tm.depths]
      rcases hx with hx | hx
      ·have:=hh 0 (by simp) e x hx;simp only [List.getElem_cons_zero] at this;omega
      ·have:=ih2 e (fun i hi=>hh (i+1) (by simpa using hi)) x hx;omega
    have:=hs ts (d+1) (fun i hi d x hx=>ih i hi d x hx) x hx
    simp only [Tm.depth];omega
 intro x hx
 have:=key t d x hx
 have:=Zf3 t
 omega
def addV (o:List Int) (x:Int×Tm):List Int:=if x.2.head<0 then add1 o (-1 - x.2.head) else o
def foldV (l:List (Int×Tm)) (o:List Int):List Int:=l.foldl addV o
theorem Zqn (l m:List (Int×Tm)) (o:List Int):foldV (l++m) o=foldV m (foldV l o):=List.foldl_append
theorem Zyb (o l:List Int) (v:Int):addNew o (add1 l v)=add1 (addNew o l) v:=by
 unfold add1
 by_cases h:v∈l
 ·rw [if_pos h,if_pos ((Zi6 l o v).2 (.inr h))]
 ·rw [if_neg h]
  simp only [addNew,List.foldl_append,List.foldl_cons,List.foldl_nil];rfl
theorem Zhd:∀ (l2 o l1:List Int),addNew o (addNew l1 l2)=addNew (addNew o l1) l2
 | [],_,_=>rfl
 | v :: l2,o,l1=>by
  have h:∀ o,addNew o (v :: l2)=addNew (add1 o v) l2:=fun _=>rfl
  rw [h,Zhd l2,Zyb,h]
mutual
theorem Zum:∀ (t:Tm) (d:Int) (o:List Int),foldV (t.pre d) o=addNew o t.vars
 | .mk h ts,d,o=>by
  have e:foldV ((Tm.mk h ts).pre d) o=foldV (Tm.pres ts (d+1)) (if h<0 then add1 o (-1 - h) else o):=rfl
  rw [e,Zot ts (d+1) _ (if h<0 then [-1 - h] else []) o ?_]
  ·rfl
  ·split<;>rfl
theorem Zot:∀ (ts:List Tm) (d:Int) (o l o0:List Int),addNew o0 l=o→foldV (Tm.pres ts d) o=addNew o0 (Tm.varsL ts l)
 | [],d,o,l,o0,h=>h.symm
 | t :: ts,d,o,l,o0,h=>by
  simp only [Tm.pres,Zqn,Tm.varsL]
  rw [Zum t d o]
  exact Zot ts d _ _ o0 (by rw [Zhd,h])
end
theorem Zwe {o:List Int} {v:Int} (h:o.Nodup):(add1 o v).Nodup:=by
 unfold add1;split
 ·exact h
 ·rename_i hn;rw [List.nodup_append];exact ⟨h,by simp,by simp;intro a ha hav;exact hn (hav ▸ ha)⟩
theorem Zie:∀ (l o:List Int),o.Nodup→(addNew o l).Nodup
 | [],_,h=>h
 | v :: l,o,h=>Zie l (add1 o v) (Zwe h)
theorem Zii:∀ (l o:List Int),l.Nodup→(∀ v∈l,v ∉ o)→addNew o l=o++l
 | [],o,_,_=>by simp [addNew]
 | v :: l,o,h,hd=>by
  have h':addNew o (v :: l)=addNew (add1 o v) l:=rfl
  have hv:add1 o v=o++[v]:=if_neg (hd v (by simp))
  rw [h',hv,Zii l _ (List.nodup_cons.1 h).2]
  ·simp
  ·intro x hx hm
   rcases List.mem_append.1 hm with hm | hm
   ·exact hd x (by simp [hx]) hm
   ·rw [List.mem_singleton.1 hm] at hx;exact (List.nodup_cons.1 h).1 hx
mutual
theorem Zw8:∀ t:Tm,t.vars.Nodup
 | .mk h ts=>Zdm ts _ (by split<;>simp)
theorem Zdm:∀ (ts:List Tm) (o:List Int),o.Nodup→(Tm.varsL ts o).Nodup
 | [],_,h=>h
 | t :: ts,o,h=>Zdm ts _ (Zie _ _ h)
end
theorem Yd0 (t:Tm) (d:Int):foldV (t.pre d) []=t.vars:=by
 rw [Zum,Zii _ _ (Zw8 t) (by simp),List.nil_append]
theorem Ych (l:List (Int×Tm)):∀ o:List Int,(foldV l o).length≤o.length+l.length:=by
 induction l with
 | nil=>intro o;simp [foldV]
 | cons x l ih =>
  intro o
  have:=ih (addV o x)
  have h2:(addV o x).length≤o.length+1:=by
   unfold addV;split
   ·exact Zv2 _ _
   ·omega
  have e:foldV (x :: l) o=foldV l (addV o x):=rfl
  rw [e];simp only [List.length_cons];omega
mutual
theorem Zzj:∀ (t:Tm),t.fit→∀ (d:Int), ∀ x∈t.pre d,x.2.fit
 | .mk h ts,hf,d,x,hx=>by
  simp only [Tm.pre,List.mem_cons] at hx
  rcases hx with rfl | hx
  ·exact hf
  ·exact Zuo ts hf.2 _ x hx
theorem Zuo:∀ (ts:List Tm),Tm.fits ts→∀ (d:Int), ∀ x∈Tm.pres ts d,x.2.fit
 | [],_,d,x,hx=>by simp [Tm.pres] at hx
 | t :: ts,hf,d,x,hx=>by
  simp only [Tm.pres,List.mem_append] at hx
  rcases hx with hx | hx
  ·exact Zzj t hf.1 d x hx
  ·exact Zuo ts hf.2 d x hx
end
end Go.Proofs
namespace Go.Proofs
open Go Go.Abs
attribute [local go_sem] Nat.reduceAdd Nat.reduceSub Nat.reduceMul Nat.reduceLeDiff Nat.reduceEqDiff Nat.reduceBEq
theorem Zr0 (ts:List Tm) (n0:Nat) (σ0:Store) (S:Nat→Store) (p:Nat) (y:AVal) (h0 : σ0.length=n0) (hS0 : σ0++[none]=S 0) (hlen:∀ i,(S i).length=n0+1) (hget:∀ i,getS (S i) p=some (.var [.ps 2 (ts.map Tm.toA)])) (hp:p<n0)
  (hs:∀ i,lowSo (n0+1) (S i)) (hs0:lowSo n0 σ0) (hy0:y.low n0) (hl:ts.length<2 ^ 62)
  (hy:∀ i (h:i<ts.length),VCall Tryz.prog y [.int .i64 ((ts.length:Int) - 1 - i),ts[ts.length - 1 - i].toA] (S i) (fun r σ'=>r = .bool true∧n0+1≤σ'.length∧lowSo σ'.length σ'∧∃ π:Nat→Nat,(∀ b,b<n0→π b=b)∧(∀ b b',b<n0+1→b'<n0+1→π b = π b'→b=b')∧leSoR π σ' 0 (S (i+1)))) :
  VCall Tryz.prog (.fn 178 [] [.ptr p 0]) [y] σ0 (fun _ σ'=>σ'=S ts.length):=by
 subst h0
 refine VCall.beginK (rs:=[]) (m:=17) Tryz.func178 rfl rfl rfl rfl rfl ?_
 refine EvK.pad 1 (Nat.le_refl _) (by simp [go_sem,hy0,hp]) hs0 ?_
 rw [show List.replicate 1 (none:Option Blk)=[none] from rfl,hS0]
 refine EvK.go 1000 ?_
 simp only [go_sem,hget,Nat.le_refl,List.length_map]
 rw [Zab (by omega)]
 have hlo0:lowSo (σ0.length+1) (S 0):=hs 0
 refine EvK.loopI (ι:={i:Nat // i≤ts.length}) 1000 (fun i=>mkT 19 [(0,y),(1, .ptr p 0),(3, .int .i64 ((ts.length:Int) - 1 - i.1))]) (fun i=>S i.1) (fun i=>ts.length - i.1) ⟨0,by omega⟩ ?_ (fun i=>by rw [hlen];exact Nat.le_succ _) ?_
 ·simp only [go_sem,hlen,hlo0,Zau (Nat.le_succ _) hy0,Int.natCast_zero,Int.sub_zero]
  exact ⟨Za9 _,by omega⟩
 ·rintro ⟨i,hi⟩
  by_cases hlt : 0≤(ts.length:Int) - 1 - i
  ·have hlt':i<ts.length:=by omega
   have hb:ts.length - 1 - i<ts.length:=by omega
   have hn:((ts.length:Int) - 1 - i).toNat=ts.length - 1 - i:=by omega
   simp only [go_sem,hlt,hget,Nat.le_refl,List.length_map,hn,Zaq hb,Za8]
   rw [← Za6]
   (repeat ((with_reducible refine And.intro ?_ ?_); ·omega))
   refine EvK.callS0 (.bool true) trivial (by rw [hlen];exact Nat.le_succ _) ?_ ?_ ?_ ?_ ?_ ?_
   ·rw [hlen];exact Zau (Nat.le_succ _) hy0
   ·simp [go_sem,Za7]
   ·rw [hlen];exact hs i
   ·rw [hlen]
    simp [go_sem,Zdd,Zem,Zjw,hy0,hp,Za0,Za7]
   ·rw [hlen]
    have hy1:=Zau (Nat.le_succ _) hy0
    simp [go_sem,hy1,Za0,Za7];omega
   rw [hlen]
   refine (hy i hlt').mono ?_
   rintro r σ' ⟨k1,k2,k3,π,k4,k5,k6⟩
   refine ⟨k1,k2,k3,π,S (i+1),hlen _,k4,k5,k6,hs _,?_⟩
   refine EvK.go 1000 ?_
   simp only [go_sem]
   refine ⟨⟨i+1,hlt'⟩,?_,by simp only;omega⟩
   have hlo1:lowSo (σ0.length+1) (S (i+1)):=hs (i+1)
   simp only [go_sem,hlen,hlo1,Zau (Nat.le_succ _) hy0]
   rw [Zab (by omega)]
   exact ⟨by rw [show (ts.length:Int) - 1 - i - 1=ts.length - 1 - ((i+1:Nat):Int) by omega],Za9 _,by omega⟩
  ·have hi':i=ts.length:=by omega
   subst hi'
   simp only [go_sem,hlt]
   refine EvK.go 1000 ?_
   simp only [go_sem]
   rw [Zax]
   exact ⟨S ts.length,Za9 _,by rw [hlen];exact Nat.le_succ _,by rw [hlen];exact hs _,trivial,rfl⟩
theorem Zq6 (ts:List Tm) (σ:Store) (hs:lowSo σ.length σ):VCall Tryz.prog (.fn 162 [] []) [.ps 2 (ts.map Tm.toA)] σ
  (fun r σ'=>r = .fn 178 [] [.ptr σ.length 0]∧σ' = σ++[some (.var [.ps 2 (ts.map Tm.toA)])]):=by
 refine VCall.begin (rs:=[.tmp 2]) (m:=3) 1000 Tryz.func162 rfl rfl rfl rfl rfl ?_
 simp only [go_sem]
 rw [Zet,Zax]
 exact ⟨_,Za9 _,by simp,Zas (Zam (by simp) hs) (by simp [go_sem,Za0]),by simp [go_sem],rfl,rfl⟩
theorem Zu8 (t:Tm) (σ:Store) (hs:lowSo σ.length σ):VCall Tryz.prog (.fn 128 [] []) [t.toA] σ
  (fun r σ'=>r = .fn 161 [] [.ptr σ.length 0]∧σ' = σ++[some (.var [.int .i64 t.head, .ps 2 (t.args.map Tm.toA)])]):=by
 refine VCall.begin (rs:=[.tmp 2]) (m:=3) 1000 Tryz.func128 rfl rfl rfl rfl rfl ?_
 simp only [go_sem,Za6]
 rw [Zet,Zax]
 exact ⟨_,Za9 _,by simp,Zas (Zam (by simp) hs) (by simp [go_sem,Za0]),by simp [go_sem],rfl,rfl⟩
theorem Zo9 (t:Tm) (hsz:t.size<999999999) (n0:Nat) (hn0:n0≤8) (σ0:Store) (b0 b1 b2 b3 b4 b5 b6 b7:Nat→Option Blk) (p:Nat) (y:AVal) (h0 : σ0.length=n0)
  (hS0 : σ0++List.replicate (8 - n0) none=[b0 0,b1 0,b2 0,b3 0,b4 0,b5 0,b6 0,b7 0]) (hget:getS [b0 0,b1 0,b2 0,b3 0,b4 0,b5 0,b6 0,b7 0] p=some (.var [.int .i64 t.head, .ps 2 (t.args.map Tm.toA)])) (hp:p<n0)
  (hs:∀ k,lowSo 8 [b0 k,b1 k,b2 k,b3 k,b4 k,b5 k,b6 k,b7 k]) (hs0:lowSo n0 σ0) (hy0:y.low n0)
  (hy:∀ k (h:k<(t.pre 1).length),VCall Tryz.prog y [.int .i64 (t.pre 1)[k].1,(t.pre 1)[k].2.toA] [b0 k,b1 k,b2 k,b3 k,b4 k,b5 k,b6 k,b7 k]
   (fun r σ'=>r = .bool true∧8≤σ'.length∧lowSo σ'.length σ'∧∃ π:Nat→Nat,(∀ b,b<n0→π b=b)∧(∀ b b',b<8→b'<8→π b = π b'→b=b')∧leSoR π σ' 0 [b0 (k+1),b1 (k+1),b2 (k+1),b3 (k+1),b4 (k+1),b5 (k+1),b6 (k+1),b7 (k+1)])) :
  VCall Tryz.prog (.fn 161 [] [.ptr p 0]) [y] σ0 (fun _ σ'=>σ'=[b0 t.size,b1 t.size,b2 t.size,b3 t.size,b4 t.size,b5 t.size,b6 t.size,b7 t.size]):=by
 subst h0
 refine VCall.beginK (rs:=[]) (m:=43) Tryz.func161 rfl rfl rfl rfl rfl ?_
 refine EvK.pad (8 - σ0.length) (Nat.le_refl _) (by simp [go_sem,hy0,hp]) hs0 ?_
 rw [hS0]
 have hpl:=Zjj t 1
 refine EvK.go 1000 ?_
 simp only [go_sem,hget,Nat.le_refl]
 refine ⟨by decide,?_⟩
 refine EvK.loopR (ι:={x:List (Int×Tm)×List AVal×Nat // x.2.2≤t.size∧(t.pre 1).drop x.2.2=rem x.1∧(∀ z∈x.1,deepOk (t.size+1) z)∧lowL 0 x.2.1}) 1000 (fun x=>mkT 45 [(0,y),(1, .ptr p 0),(3, .ptr 9 0)])
  (fun x=>[b0 x.1.2.2,b1 x.1.2.2,b2 x.1.2.2,b3 x.1.2.2,b4 x.1.2.2,b5 x.1.2.2,b6 x.1.2.2,b7 x.1.2.2,some (.row (x.1.1.reverse.map plA++x.1.2.1) 0),some (.var [.os 8 0 x.1.1.length 3])]) (fun x=>t.size - x.1.2.2)
  ⟨([(1,t)],[],0),Nat.zero_le _,by rw [List.drop_zero];exact (Yk1 t 1).symm,by simp [deepOk,Int.add_comm],trivial⟩ [] ?_ (fun _=>by simp;omega) ?_
 ·refine Zb0 (Zn4 _ _) ⟨?_,?_,?_,?_⟩
  ·have hy1:=Zbj (pi []) _ (fun _ _=>rfl) [y] ⟨hy0,trivial⟩
   simp only [renL,List.cons.injEq,and_true] at hy1
   simp only [go_sem,hy1]
  ·refine Zco (B:=[b0 0,b1 0,b2 0,b3 0,b4 0,b5 0,b6 0,b7 0]) (hs 0) (fun _ _=>rfl) ?_
   simp only [go_sem,List.reverse_cons,List.reverse_nil,List.nil_append,List.map_cons,List.map_nil,List.append_nil,Yiq,Za2 (Za0 _)]
  ·have hy1:=Zau (m:=10) (by omega) hy0
   simp only [go_sem,hy1]
   omega
  ·refine Zas (σ:=[b0 0,b1 0,b2 0,b3 0,b4 0,b5 0,b6 0,b7 0]) (Zam (Nat.le_add_right 8 2) (hs 0)) ?_
   simp [go_sem,Za0,Yiq]
 ·rintro ⟨⟨stk,junk,k⟩,h1,h2,h3,h4⟩
  simp only at h1 h2 h3 h4
  cases stk with
  | nil =>
   have hk:k=t.size:=by
    have:=congrArg List.length h2
    simp only [rem,List.flatMap_nil,List.length_nil,List.length_drop,hpl] at this;omega
   subst hk
   simp only [go_sem,List.length_nil,Int.natCast_zero,Int.lt_irrefl]
   refine EvK.go 1000 ?_
   simp only [go_sem]
   rw [Zax]
   refine ⟨[b0 t.size,b1 t.size,b2 t.size,b3 t.size,b4 t.size,b5 t.size,b6 t.size,b7 t.size],by simp [go_sem],by simpa using hn0,hs _,trivial,rfl⟩
  | cons x r =>
   have hlen:((x :: r).reverse.map plA++junk).length=r.length+1+junk.length:=by simp;omega
   have hes:(x :: r).reverse.map plA++junk=r.reverse.map plA++plA x :: junk:=by simp
   have hgx:(r.reverse.map plA++plA x :: junk).getD r.length .undef=plA x:=by simp
   have hlen2:(r.reverse.map plA++plA x :: junk).length=r.length+1+junk.length:=by rw [← hes,hlen]
   have hrl:r.length<1000000000:=by
    have:=congrArg List.length h2
    have h5:=Zsu (x :: r)
    rw [List.length_drop,hpl] at this
    simp only [List.length_cons] at h5;omega
   have hw1:IntKind.i64.wrap ((r.length:Int)+1 - 1)=r.length:=by rw [Zab (by omega)];omega
   have hpos:(0:Int)<r.length+1:=by omega
   simp only [go_sem,List.length_cons,hes,Int.natCast_add,Int.natCast_one,hpos,hw1,hlen2,Int.toNat_natCast,hgx,Ycf,Nat.le_refl]
   obtain ⟨d,⟨hd,ts⟩⟩:=x
   have hk:k<(t.pre 1).length:=by
    have:=congrArg List.length h2
    have h5:=Zsu ((d,Tm.mk hd ts) :: r)
    rw [List.length_drop] at this
    simp only [List.length_cons] at h5;omega
   rw [List.drop_eq_getElem_cons hk,Zj3,Tm.pre,List.cons_append,← Zuk] at h2
   obtain ⟨hLk,hdr⟩:=List.cons.inj h2
   have hcap:r.length+Tm.sizes ts<999999999:=by
    have:=congrArg List.length hdr
    rw [List.length_drop,Zuk,List.length_append,Znf] at this
    have:=Zsu r
    omega
   have hdeep:deepOk (t.size+1) (d,Tm.mk hd ts):=h3 _ (by simp)
   simp only [deepOk,Tm.size] at hdeep
   have hyk:=hy k hk
   rw [hLk] at hyk
   simp only [Tm.head,Tm.args,Nat.sub_zero]
   rw [Ydb]
   have hjl:∀ n,lowL n (r.reverse.map plA++plA (d,Tm.mk hd ts) :: junk):=fun n=>Zbq (Zfn _) ⟨Zkx _,Zac (Nat.zero_le _) h4⟩
   (repeat ((with_reducible refine And.intro ?_ ?_); ·omega))
   refine EvK.callS (σ:=[b0 k,b1 k,b2 k,b3 k,b4 k,b5 k,b6 k,b7 k]) (τ:=[some (.row (r.reverse.map plA++plA (d,Tm.mk hd ts) :: junk) 0),some (.var [.os 8 0 r.length 3]),some (.var [.int .i64 hd, .ps 2 (ts.map Tm.toA), .int .i64 d])]) (.bool true) trivial (by simpa using hn0) ?_ ?_ (hs k) ?_ ?_ ?_ ?_ ?_
   ·exact Zau hn0 hy0
   ·simp [go_sem,Za7]
   ·simp [go_sem,Zdd,Zem,Zjw,Ysj,Ynw,Ytw,hy0,hp,Za0,Za7]
   ·simp only [Zly,Zqe,Ym9,Ymv]
    refine ⟨Yb4 (hjl _),?_,?_,trivial⟩
    ·simp [Zdd,Zem,Ynw]
    ·simp [Zdd,Zem,Zjw,go_sem,Za0]
   ·have hy1:=Zau (m:=11) (by omega) hy0
    simp [go_sem,hy1,Za0,Za7];omega
   ·exact ⟨hjl _,⟨by simp [go_sem],trivial⟩,by simp [go_sem,lowO,Blk.low,Za0],trivial⟩
   refine hyk.mono ?_
   rintro r' σ' ⟨k1,k2,k3,π,k4,k5,k6⟩
   refine ⟨k1,k2,k3,π,[b0 (k+1),b1 (k+1),b2 (k+1),b3 (k+1),b4 (k+1),b5 (k+1),b6 (k+1),b7 (k+1)],rfl,k4,k5,k6,hs _,?_⟩
   refine EvK.go 1000 ?_
   simp only [go_sem]
   have hsk:=Zam (m:=11) (by decide) (hs (k+1))
   simp only [Zde,Zhe,and_true] at hsk
   refine (Zq6 ts _ ?_).mono ?_
   ·simp only [go_sem,Zde,hsk,hjl,Za0,Zjr,and_true,true_and,List.length_cons,List.length_nil];decide
   rintro _ _ ⟨rfl,rfl⟩
   refine EvK.go 1000 ?_
   simp only [go_sem]
   refine EvK.rangeFunc (mkT 45 [(3, .ptr 9 0),(4, .ptr 10 0)]) ?_ ?_ (fun ρ ht hpa hat hbo=>?_)
   ·simp only [go_sem]
   ·exact fun b hb=>by cases hb
   simp only [go_sem]
   let S:Nat→Store:=fun i=>match i with
    | 0=>[b0 (k+1),b1 (k+1),b2 (k+1),b3 (k+1),b4 (k+1),b5 (k+1),b6 (k+1),b7 (k+1),some (.row (r.reverse.map plA++plA (d,Tm.mk hd ts) :: junk) 0),some (.var [.os 8 0 r.length 3]),some (.var [.int .i64 hd, .ps 2 (ts.map Tm.toA), .int .i64 d]),some (.var [.ps 2 (ts.map Tm.toA)]),some (.loop (ρ.at .ready)),none]
    | i+1=>[b0 (k+1),b1 (k+1),b2 (k+1),b3 (k+1),b4 (k+1),b5 (k+1),b6 (k+1),b7 (k+1),none,some (.var [.os 13 0 (r.length+(i+1)) 3]),some (.var [.int .i64 hd, .ps 2 (ts.map Tm.toA), .int .i64 d]),some (.var [.ps 2 (ts.map Tm.toA)]),some (.loop (ρ.at .ready)),some (.row (((ts.drop (ts.length - (i+1))).map (fun u=>(d+1,u))++r).reverse.map plA) 0)]
   have hS0:S 0=[b0 (k+1),b1 (k+1),b2 (k+1),b3 (k+1),b4 (k+1),b5 (k+1),b6 (k+1),b7 (k+1),some (.row (r.reverse.map plA++plA (d,Tm.mk hd ts) :: junk) 0),some (.var [.os 8 0 r.length 3]),some (.var [.int .i64 hd, .ps 2 (ts.map Tm.toA), .int .i64 d]),some (.var [.ps 2 (ts.map Tm.toA)]),some (.loop (ρ.at .ready)),none]:=rfl
   have hS1:∀ i,S (i+1)=[b0 (k+1),b1 (k+1),b2 (k+1),b3 (k+1),b4 (k+1),b5 (k+1),b6 (k+1),b7 (k+1),none,some (.var [.os 13 0 (r.length+(i+1)) 3]),some (.var [.int .i64 hd, .ps 2 (ts.map Tm.toA), .int .i64 d]),some (.var [.ps 2 (ts.map Tm.toA)]),some (.loop (ρ.at .ready)),some (.row (((ts.drop (ts.length - (i+1))).map (fun u=>(d+1,u))++r).reverse.map plA) 0)]:=fun i=>rfl
   refine (Zr0 ts 13 _ S 11 (.yld 12) rfl rfl (fun i=>by cases i<;>rfl) (fun i=>by cases i<;>rfl) (by decide) (fun i=>?_) ?_ (Nat.lt_succ_self 12) ?_ (fun i hi=>?_)).mono ?_
   ·have hρl:lowL 14 ρ.tm:=by rw [ht];simp [go_sem,Zd7,Zf1]
    have hpre:=Zam (m:=14) (by decide) (hs (k+1))
    cases i with
    | zero=>exact Zas (σ:=[b0 (k+1),b1 (k+1),b2 (k+1),b3 (k+1),b4 (k+1),b5 (k+1),b6 (k+1),b7 (k+1)]) hpre ⟨hjl _,⟨by simp [go_sem],trivial⟩,by simp [go_sem,lowO,Blk.low,Za0],by simp [go_sem,lowO,Blk.low,Za0],hρl,trivial,trivial⟩
    | succ i=>exact Zas (σ:=[b0 (k+1),b1 (k+1),b2 (k+1),b3 (k+1),b4 (k+1),b5 (k+1),b6 (k+1),b7 (k+1)]) hpre ⟨trivial,⟨by simp [go_sem],trivial⟩,by simp [go_sem,lowO,Blk.low,Za0],by simp [go_sem,lowO,Blk.low,Za0],hρl,Zfn _,trivial⟩
   ·have hρl:lowL 13 ρ.tm:=by rw [ht];simp [go_sem,Zd7,Zf1]
    have hpre:=Zam (m:=13) (by decide) (hs (k+1))
    exact Zas (σ:=[b0 (k+1),b1 (k+1),b2 (k+1),b3 (k+1),b4 (k+1),b5 (k+1),b6 (k+1),b7 (k+1)]) hpre ⟨hjl _,⟨by simp [go_sem],trivial⟩,by simp [go_sem,lowO,Blk.low,Za0],by simp [go_sem,lowO,Blk.low,Za0],hρl,trivial⟩
   ·have:=Zaj ts
    omega
   ·have hwd:IntKind.i64.wrap (d+1)=d+1:=Zab (by omega)
    have hlt:=Zaj ts
    have htn:t.size<999999999:=hsz
    have hb:ts.length - 1 - i<ts.length:=by omega
    have hcut:ts.drop (ts.length - (i+1))=ts[ts.length - 1 - i] :: ts.drop (ts.length - i):=by
     rw [show ts.length - (i+1)=ts.length - 1 - i by omega,List.drop_eq_getElem_cons hb,show ts.length - 1 - i+1=ts.length - i by omega]
    generalize ts[ts.length - 1 - i]=u at *
    have hpu:AVal.agg [.int .i64 u.head, .ps 2 (u.args.map Tm.toA), .int .i64 (d+1)]=plA (d+1,u):=rfl
    have hρ13:lowL 13 ρ.tm:=by rw [ht];simp [go_sem,Zd7,Zf1]
    have hloop:∀ π:Nat→Nat,(∀ b,b<13→π b=b)→renB π (.loop (ρ.at .ready)) = .loop (ρ.at .ready):=fun π hπ=>Zfd π 13 hπ _ hρ13
    cases i with
    | zero =>
     have htk:List.take r.length (r.reverse.map plA++plA (d,Tm.mk hd ts) :: junk)=r.reverse.map plA:=by rw [List.take_left' (by simp)]
     refine VCall.yieldK 1000 ht hpa hat hbo (by rw [hS0];rfl) rfl ?_
     clear_value S
     rw [hS0]
     simp only [go_sem,Za8,Nat.le_refl,hwd,appOk,List.mem_singleton,forall_eq,hlen2,htk]
     (repeat ((with_reducible refine And.intro ?_ ?_); ·omega))
     rw [Zfe]
     have hsw:∀ b,b<13→pi [(13,16),(16,13)] b=b:=by decide
     have hst : [b0 (k+1),b1 (k+1),b2 (k+1),b3 (k+1),b4 (k+1),b5 (k+1),b6 (k+1),b7 (k+1),none,some (.var [.os 16 0 (r.length+1) 3]),some (.var [.int .i64 hd, .ps 2 (ts.map Tm.toA), .int .i64 d]),some (.var [.ps 2 (ts.map Tm.toA)]),some (.loop (ρ.at .ready)),none,none,none,some (.row (r.reverse.map plA++[plA (d+1,u)]) 0)]=([b0 (k+1),b1 (k+1),b2 (k+1),b3 (k+1),b4 (k+1),b5 (k+1),b6 (k+1),b7 (k+1)]++[none,some (.var [.os 16 0 (r.length+1) 3]),some (.var [.int .i64 hd, .ps 2 (ts.map Tm.toA), .int .i64 d]),some (.var [.ps 2 (ts.map Tm.toA)]),some (.loop (ρ.at .ready)),none,none,none,some (.row (r.reverse.map plA++[plA (d+1,u)]) 0)]:Store):=rfl
     have hlow3:lowSo 17 [b0 (k+1),b1 (k+1),b2 (k+1),b3 (k+1),b4 (k+1),b5 (k+1),b6 (k+1),b7 (k+1),none,some (.var [.os 16 0 (r.length+1) 3]),some (.var [.int .i64 hd, .ps 2 (ts.map Tm.toA), .int .i64 d]),some (.var [.ps 2 (ts.map Tm.toA)]),some (.loop (ρ.at .ready)),none,none,none,some (.row (r.reverse.map plA++[plA (d+1,u)]) 0)]:=by
      rw [hst]
      exact Zas (Zam (Nat.le_add_right 8 9) (hs (k+1))) ⟨trivial,⟨Nat.lt_succ_self 16,trivial⟩,by simp [go_sem,lowO,Blk.low,Za0],by simp [go_sem,lowO,Blk.low,Za0],Zac (Nat.le_add_right 13 4) hρ13,trivial,trivial,trivial,Zbq (Zfn _) ⟨Zkx _,trivial⟩,trivial⟩
     refine ⟨rfl,[b0 (k+1),b1 (k+1),b2 (k+1),b3 (k+1),b4 (k+1),b5 (k+1),b6 (k+1),b7 (k+1),none,some (.var [.os 16 0 (r.length+1) 3]),some (.var [.int .i64 hd, .ps 2 (ts.map Tm.toA), .int .i64 d]),some (.var [.ps 2 (ts.map Tm.toA)]),some (.loop (ρ.at .ready)),none,none,none,some (.row (r.reverse.map plA++[plA (d+1,u)]) 0)],?_,?_,hlow3,rfl,?_,hlow3,pi [(13,16),(16,13)],hsw,?_,?_⟩
     ·simp [go_sem,hpu]
     ·exact Nat.le_add_right 14 3
     ·exact Nat.le_add_right 14 3
     ·exact Ziy (lo:=0) rfl
     ·rw [hS1]
      refine Zco (B:=[b0 (k+1),b1 (k+1),b2 (k+1),b3 (k+1),b4 (k+1),b5 (k+1),b6 (k+1),b7 (k+1)]) (hs (k+1)) (fun b hb=>hsw b (by simp at hb;omega)) ?_
      simp only [go_sem,hloop _ hsw,Nat.reduceEqDiff,if_true,if_false,Nat.reduceAdd,List.length_cons,List.length_nil,and_true,true_and,Za2 (Za0 _),Za2 (Zfn _)]
      refine ⟨(hloop _ hsw).symm,?_⟩
      rw [show ts.length - 1=ts.length - (0+1) from rfl,hcut]
      simp
    | succ i =>
     have hln3:(((ts.drop (ts.length - (i+1))).map (fun u=>(d+1,u))++r).reverse.map plA).length=r.length+(i+1):=by simp;omega
     have htk3:List.take (r.length+(i+1)) (((ts.drop (ts.length - (i+1))).map (fun u=>(d+1,u))++r).reverse.map plA)=((ts.drop (ts.length - (i+1))).map (fun u=>(d+1,u))++r).reverse.map plA:=List.take_of_length_le (by rw [hln3];exact Nat.le_refl _)
     refine VCall.yieldK 1000 ht hpa hat hbo (by rw [hS1];rfl) rfl ?_
     clear_value S
     rw [hS1]
     simp only [go_sem,Za8,Nat.le_refl,hwd,appOk,List.mem_singleton,forall_eq,hln3,htk3]
     (repeat ((with_reducible refine And.intro ?_ ?_); ·omega))
     rw [Zfe]
     have hsw:∀ b,b<13→pi [(13,16),(16,13)] b=b:=by decide
     have hst : [b0 (k+1),b1 (k+1),b2 (k+1),b3 (k+1),b4 (k+1),b5 (k+1),b6 (k+1),b7 (k+1),none,some (.var [.os 16 0 (r.length+(i+1)+1) 3]),some (.var [.int .i64 hd, .ps 2 (ts.map Tm.toA), .int .i64 d]),some (.var [.ps 2 (ts.map Tm.toA)]),some (.loop (ρ.at .ready)),none,none,none,some (.row (((ts.drop (ts.length - (i+1))).map (fun u=>(d+1,u))++r).reverse.map plA++[plA (d+1,u)]) 0)]=([b0 (k+1),b1 (k+1),b2 (k+1),b3 (k+1),b4 (k+1),b5 (k+1),b6 (k+1),b7 (k+1)]++[none,some (.var [.os 16 0 (r.length+(i+1)+1) 3]),some (.var [.int .i64 hd, .ps 2 (ts.map Tm.toA), .int .i64 d]),some (.var [.ps 2 (ts.map Tm.toA)]),some (.loop (ρ.at .ready)),none,none,none,some (.row (((ts.drop (ts.length - (i+1))).map (fun u=>(d+1,u))++r).reverse.map plA++[plA (d+1,u)]) 0)]:Store):=rfl
     have hlow3:lowSo 17 [b0 (k+1),b1 (k+1),b2 (k+1),b3 (k+1),b4 (k+1),b5 (k+1),b6 (k+1),b7 (k+1),none,some (.var [.os 16 0 (r.length+(i+1)+1) 3]),some (.var [.int .i64 hd, .ps 2 (ts.map Tm.toA), .int .i64 d]),some (.var [.ps 2 (ts.map Tm.toA)]),some (.loop (ρ.at .ready)),none,none,none,some (.row (((ts.drop (ts.length - (i+1))).map (fun u=>(d+1,u))++r).reverse.map plA++[plA (d+1,u)]) 0)]:=by
      rw [hst]
      exact Zas (Zam (Nat.le_add_right 8 9) (hs (k+1))) ⟨trivial,⟨Nat.lt_succ_self 16,trivial⟩,by simp [go_sem,lowO,Blk.low,Za0],by simp [go_sem,lowO,Blk.low,Za0],Zac (Nat.le_add_right 13 4) hρ13,trivial,trivial,trivial,Zbq (Zfn _) ⟨Zkx _,trivial⟩,trivial⟩
     refine ⟨rfl,[b0 (k+1),b1 (k+1),b2 (k+1),b3 (k+1),b4 (k+1),b5 (k+1),b6 (k+1),b7 (k+1),none,some (.var [.os 16 0 (r.length+(i+1)+1) 3]),some (.var [.int .i64 hd, .ps 2 (ts.map Tm.toA), .int .i64 d]),some (.var [.ps 2 (ts.map Tm.toA)]),some (.loop (ρ.at .ready)),none,none,none,some (.row (((ts.drop (ts.length - (i+1))).map (fun u=>(d+1,u))++r).reverse.map plA++[plA (d+1,u)]) 0)],?_,?_,hlow3,rfl,?_,hlow3,pi [(13,16),(16,13)],hsw,?_,?_⟩
     ·simp [go_sem,hpu]
     ·exact Nat.le_add_right 14 3
     ·exact Nat.le_add_right 14 3
     ·exact Ziy (lo:=0) rfl
     ·rw [hS1]
      refine Zco (B:=[b0 (k+1),b1 (k+1),b2 (k+1),b3 (k+1),b4 (k+1),b5 (k+1),b6 (k+1),b7 (k+1)]) (hs (k+1)) (fun b hb=>hsw b (by simp at hb;omega)) ?_
      simp only [go_sem,hloop _ hsw,Nat.reduceEqDiff,if_true,if_false,Nat.reduceAdd,List.length_cons,List.length_nil,and_true,true_and,Za2 (Za0 _),Za2 (Zfn _)]
      refine ⟨by rw [Nat.add_assoc],(hloop _ hsw).symm,?_⟩
      rw [hcut]
      simp
   rintro r' σ2 rfl
   rw [Zst]
   refine ⟨.ready,?_,?_⟩
   ·cases ts.length<;>rfl
   rw [Zfz]
   refine EvK.go 1000 ?_
   have hdp:∀ z∈ts.map (fun u=>(d+1,u))++r,deepOk (t.size+1) z:=by
    intro z hz
    rcases List.mem_append.1 hz with hz | hz
    ·obtain ⟨u,hu,rfl⟩:=List.mem_map.1 hz
     obtain ⟨j,hj,rfl⟩:=List.mem_iff_getElem.1 hu
     have:=Zb2 ts j hj
     simp only [deepOk];omega
    ·exact h3 z (by simp [hz])
   cases hN:ts.length with
   | zero =>
    obtain rfl:=List.length_eq_zero_iff.1 hN
    rw [hS0]
    simp only [go_sem]
    refine ⟨⟨(r,plA (d,Tm.mk hd []) :: junk,k+1),by simp only;omega,by simp only;rw [hdr];rfl,fun z hz=>h3 z (by simp at hz;simp [hz]),⟨Zkx _,h4⟩⟩,[],Zb0 (Zn4 _ _) ⟨?_,?_,?_,?_⟩,by simp only;omega⟩
    ·have hy1:=Zbj (pi []) _ (fun _ _=>rfl) [y] ⟨hy0,trivial⟩
     simp only [renL,List.cons.injEq,and_true] at hy1
     simp only [go_sem,hy1]
    ·refine Zco (B:=[b0 (k+1),b1 (k+1),b2 (k+1),b3 (k+1),b4 (k+1),b5 (k+1),b6 (k+1),b7 (k+1)]) (hs (k+1)) (fun _ _=>rfl) ?_
     simp only [go_sem,Za2 (hjl 0)]
    ·have hy1:=Zau (m:=10) (by omega) hy0
     simp only [go_sem,hy1]
     omega
    ·refine Zas (σ:=[b0 (k+1),b1 (k+1),b2 (k+1),b3 (k+1),b4 (k+1),b5 (k+1),b6 (k+1),b7 (k+1)]) (Zam (Nat.le_add_right 8 2) (hs (k+1))) ?_
     exact ⟨hjl _,⟨by simp [go_sem],trivial⟩,trivial⟩
   | succ N =>
    rw [hS1]
    have hd0:ts.drop (ts.length - (N+1))=ts:=by rw [hN,Nat.sub_self,List.drop_zero]
    simp only [go_sem,hd0]
    refine ⟨⟨(ts.map (fun u=>(d+1,u))++r,[],k+1),by simp only;omega,hdr,hdp,trivial⟩,[(8,13),(13,8)],Zb0 (Yk6 hn0 rfl) ⟨?_,?_,?_,?_⟩,by simp only;omega⟩
    ·have hy1:=Zbj (pi [(8,13),(13,8)]) 8 (by decide) [y] ⟨Zau hn0 hy0,trivial⟩
     simp only [renL,List.cons.injEq,and_true] at hy1
     simp only [go_sem,hy1]
     rw [if_neg (by omega),if_neg (by omega)]
    ·refine Zco (B:=[b0 (k+1),b1 (k+1),b2 (k+1),b3 (k+1),b4 (k+1),b5 (k+1),b6 (k+1),b7 (k+1)]) (hs (k+1)) (fun b hb=>by simp only [List.length_cons,List.length_nil] at hb;revert b;decide) ?_
     simp only [go_sem,Za2 (Zfn _),List.append_nil]
     simp only [List.length_append,List.length_map,hN]
     rw [Nat.add_comm]
    ·have hy1:=Zau (m:=10) (by omega) hy0
     simp only [go_sem,hy1]
     omega
    ·refine Zas (σ:=[b0 (k+1),b1 (k+1),b2 (k+1),b3 (k+1),b4 (k+1),b5 (k+1),b6 (k+1),b7 (k+1)]) (Zam (Nat.le_add_right 8 2) (hs (k+1))) ?_
     exact ⟨Zbq (Zfn _) trivial,⟨by simp [go_sem],trivial⟩,trivial⟩
theorem Zfi (t:Tm) (hsz:t.size<999999999):CallEq Tryz.prog 121 [t.toA] (.int .i64 t.check):=by
 refine CallEq.begin (rs:=[.tmp 2]) (m:=52) 1000 Tryz.func121 rfl rfl rfl (by decide) trivial ?_
 simp only [go_sem,Za6,Nat.le_refl]
 rw [← Za6]
 refine (Zu8 t _ ?_).mono ?_
 ·simp [go_sem,Za0]
 rintro _ _ ⟨rfl,rfl⟩
 refine EvK.go 1000 ?_
 simp only [go_sem]
 refine EvK.rangeFunc (mkT 53 [(3, .ptr 1 0),(4, .ptr 2 0),(5, .ptr 3 0)]) ?_ ?_ (fun ρ ht hpa hat hbo=>?_)
 ·simp only [go_sem]
 ·exact fun b hb=>by cases hb
 simp only [go_sem]
 have hpl:=Zjj t 1
 have hdp:=Ztb t 1 0
 have hgd:=Zv6 t 1
 have hbd:=Ybl t 1
 have hρl:lowL 6 ρ.tm:=by rw [ht];simp [go_sem,Zd7,Zf1]
 have hst:∀ k,lowSo 8 [some (.var [.int .i64 t.head, .ps 2 (t.args.map Tm.toA)]),some (.var [.int .i64 (k:Nat)]),some (.var [.int .i64 (maxDeep ((t.pre 1).take k) 0)]),some (.var [.bool (((t.pre 1).take k).any fun x=>!topGood x.2)]),some (.var [.int .i64 t.head, .ps 2 (t.args.map Tm.toA)]),some (.loop (ρ.at .ready)),none,none] :=
  fun k=>⟨⟨trivial,Za0 _,trivial⟩,⟨trivial,trivial⟩,⟨trivial,trivial⟩,⟨trivial,trivial⟩,⟨trivial,Za0 _,trivial⟩,Zac (by decide) hρl,trivial,trivial,trivial⟩
 refine (Zo9 t hsz 6 (by decide) _ (fun _=>some (.var [.int .i64 t.head, .ps 2 (t.args.map Tm.toA)])) (fun k=>some (.var [.int .i64 (k:Nat)])) (fun k=>some (.var [.int .i64 (maxDeep ((t.pre 1).take k) 0)]))
  (fun k=>some (.var [.bool (((t.pre 1).take k).any fun x=>!topGood x.2)])) (fun _=>some (.var [.int .i64 t.head, .ps 2 (t.args.map Tm.toA)])) (fun _=>some (.loop (ρ.at .ready))) (fun _=>none) (fun _=>none) 4 (.yld 5) rfl rfl rfl (by decide) hst ?_ (Nat.lt_succ_self 5) (fun k hk=>?_)).mono ?_
 ·exact ⟨⟨trivial,Za0 _,trivial⟩,⟨trivial,trivial⟩,⟨trivial,trivial⟩,⟨trivial,trivial⟩,⟨trivial,Za0 _,trivial⟩,hρl,trivial⟩
 ·have htk:=Zod hk
  have hbk:=hbd _ (List.getElem_mem hk)
  have hmx : 0≤maxDeep ((t.pre 1).take k) 0∧maxDeep ((t.pre 1).take k) 0<2 ^ 62:=Zhn _ 0 (by omega) (by omega) fun x hx=>by have:=hbd x (List.mem_of_mem_take hx);omega
  have hm1:maxDeep ((t.pre 1).take (k+1)) 0=max (maxDeep ((t.pre 1).take k) 0) (t.pre 1)[k].1:=by rw [htk,Zjd];rfl
  have hg1:((t.pre 1).take (k+1)).any (fun x=>!topGood x.2)=(((t.pre 1).take k).any (fun x=>!topGood x.2) || !topGood (t.pre 1)[k].2):=by rw [htk,List.any_append];simp
  refine VCall.stay rfl (hst (k+1)) ?_
  rw [hm1,hg1]
  generalize (t.pre 1)[k]=x at *
  generalize maxDeep ((t.pre 1).take k) 0=mx at *
  generalize ((t.pre 1).take k).any (fun x=>!topGood x.2)=wr at *
  obtain ⟨d,u⟩:=x
  simp only at hbk
  have hmax:(if mx<d then d else mx)=max mx d:=by omega
  refine VCall.yieldK 1000 ht hpa hat hbo rfl rfl ?_
  simp only [go_sem,Za8,Nat.le_refl,List.length_map]
  have hk64 : -9223372036854775808≤(k:Int)+1∧(k:Int)+1≤9223372036854775807:=by omega
  have hk1:((k+1:Nat):Int)=(k:Int)+1:=rfl
  have hst':∀ X,lowSo 8 [some (.var [.int .i64 t.head, .ps 2 (t.args.map Tm.toA)]),some (.var [.int .i64 (k+1:Nat)]),some (.var [.int .i64 (max mx d)]),some (.var [.bool X]),some (.var [.int .i64 t.head, .ps 2 (t.args.map Tm.toA)]),some (.loop (ρ.at .ready)),none,none]:=fun X=>⟨⟨trivial,Za0 _,trivial⟩,⟨trivial,trivial⟩,⟨trivial,trivial⟩,⟨trivial,trivial⟩,⟨trivial,Za0 _,trivial⟩,Zac (by decide) hρl,trivial,trivial,trivial⟩
  refine EvK.go 1000 ?_
  refine EvK.draw [.no, .no,⟨none,[],[1]⟩,⟨none,[],[1]⟩,⟨none,[],[1]⟩,⟨none,[1],[]⟩,⟨none,[2],[]⟩] 9 9 mixed rfl rfl (by decide) ?_
  simp only [go_sem,padS,hmax]
  refine EvK.go 1000 ?_
  have hgu:topGood u = !(u.head<0&&decide ((0:Int)<u.args.length)||u.head < -256||decide (1023<u.head)||decide ((8:Int)<u.args.length)):=by
   simp only [topGood,Int.natCast_pos,show (8:Int)<u.args.length↔8<u.args.length by omega]
  cases wr with
  | true =>
   simp only [go_sem,hmax,List.length_map,Zab hk64]
   rw [Zfe]
   refine ⟨rfl,[some (.var [.int .i64 t.head, .ps 2 (t.args.map Tm.toA)]),some (.var [.int .i64 (k+1:Nat)]),some (.var [.int .i64 (max mx d)]),some (.var [.bool true]),some (.var [.int .i64 t.head, .ps 2 (t.args.map Tm.toA)]),some (.loop (ρ.at .ready)),none,none],by simp [go_sem,hk1],Nat.le_refl _,hst' _,rfl,?_⟩
   rfl
  | false =>
   by_cases d1:u.head<0
   ·by_cases d2:(0:Int)<u.args.length
    ·simp only [go_sem,hmax,d1,d2,List.length_map,Zab hk64]
     rw [Zfe]
     refine ⟨rfl,[some (.var [.int .i64 t.head, .ps 2 (t.args.map Tm.toA)]),some (.var [.int .i64 (k+1:Nat)]),some (.var [.int .i64 (max mx d)]),some (.var [.bool true]),some (.var [.int .i64 t.head, .ps 2 (t.args.map Tm.toA)]),some (.loop (ρ.at .ready)),none,none],by simp [go_sem,hk1],Nat.le_refl _,hst' _,rfl,?_⟩
     rw [hgu,decide_eq_true d1,decide_eq_true d2];rfl
    by_cases d3:u.head < -256
    ·simp only [go_sem,hmax,d1,d2,d3,List.length_map,Zab hk64]
     rw [Zfe]
     refine ⟨rfl,[some (.var [.int .i64 t.head, .ps 2 (t.args.map Tm.toA)]),some (.var [.int .i64 (k+1:Nat)]),some (.var [.int .i64 (max mx d)]),some (.var [.bool true]),some (.var [.int .i64 t.head, .ps 2 (t.args.map Tm.toA)]),some (.loop (ρ.at .ready)),none,none],by simp [go_sem,hk1],Nat.le_refl _,hst' _,rfl,?_⟩
     rw [hgu,decide_eq_true d1,decide_eq_false d2,decide_eq_true d3];rfl
    have d4:¬ 1023<u.head:=by omega
    have d5:¬ (8:Int)<u.args.length:=by omega
    simp only [go_sem,hmax,d1,d2,d3,d4,d5,List.length_map,Zab hk64]
    rw [Zfe]
    refine ⟨rfl,[some (.var [.int .i64 t.head, .ps 2 (t.args.map Tm.toA)]),some (.var [.int .i64 (k+1:Nat)]),some (.var [.int .i64 (max mx d)]),some (.var [.bool false]),some (.var [.int .i64 t.head, .ps 2 (t.args.map Tm.toA)]),some (.loop (ρ.at .ready)),none,none],by simp [go_sem,hk1],Nat.le_refl _,hst' _,rfl,?_⟩
    rw [hgu,decide_eq_true d1,decide_eq_false d2,decide_eq_false d3,decide_eq_false d4,decide_eq_false d5];rfl
   have d3:¬ u.head < -256:=by omega
   by_cases d4 : 1023<u.head
   ·simp only [go_sem,hmax,d1,d3,d4,List.length_map,Zab hk64]
    rw [Zfe]
    refine ⟨rfl,[some (.var [.int .i64 t.head, .ps 2 (t.args.map Tm.toA)]),some (.var [.int .i64 (k+1:Nat)]),some (.var [.int .i64 (max mx d)]),some (.var [.bool true]),some (.var [.int .i64 t.head, .ps 2 (t.args.map Tm.toA)]),some (.loop (ρ.at .ready)),none,none],by simp [go_sem,hk1],Nat.le_refl _,hst' _,rfl,?_⟩
    rw [hgu,decide_eq_false d1,decide_eq_false d3,decide_eq_true d4];rfl
   by_cases d5:(8:Int)<u.args.length
   ·simp only [go_sem,hmax,d1,d3,d4,d5,List.length_map,Zab hk64]
    rw [Zfe]
    refine ⟨rfl,[some (.var [.int .i64 t.head, .ps 2 (t.args.map Tm.toA)]),some (.var [.int .i64 (k+1:Nat)]),some (.var [.int .i64 (max mx d)]),some (.var [.bool true]),some (.var [.int .i64 t.head, .ps 2 (t.args.map Tm.toA)]),some (.loop (ρ.at .ready)),none,none],by simp [go_sem,hk1],Nat.le_refl _,hst' _,rfl,?_⟩
    rw [hgu,decide_eq_false d1,decide_eq_false d3,decide_eq_false d4,decide_eq_true d5];rfl
   simp only [go_sem,hmax,d1,d3,d4,d5,List.length_map,Zab hk64]
   rw [Zfe]
   refine ⟨rfl,[some (.var [.int .i64 t.head, .ps 2 (t.args.map Tm.toA)]),some (.var [.int .i64 (k+1:Nat)]),some (.var [.int .i64 (max mx d)]),some (.var [.bool false]),some (.var [.int .i64 t.head, .ps 2 (t.args.map Tm.toA)]),some (.loop (ρ.at .ready)),none,none],by simp [go_sem,hk1],Nat.le_refl _,hst' _,rfl,?_⟩
   rw [hgu,decide_eq_false d1,decide_eq_false d3,decide_eq_false d4,decide_eq_false d5];rfl
 rintro r' σ2 rfl
 rw [Zst]
 refine ⟨.ready,rfl,?_⟩
 rw [Zfz]
 rw [← hpl,List.take_length,hdp,hgd,hpl]
 refine EvK.go 1000 ?_
 simp only [go_sem]
 have hdd : 1≤t.depth:=by cases t;simp only [Tm.depth];omega
 unfold Tm.check
 refine ⟨fun h=>by rw [if_pos (by omega)],fun h=>⟨fun h'=>by rw [if_neg (by omega),if_pos (by omega)],fun h'=>⟨fun hg=>?_,fun hg=>?_⟩⟩⟩<;>rw [if_neg (by omega),if_neg (by omega)]
 ·rw [if_neg (by simpa using hg)]
 ·rw [if_pos (by simpa using hg)]
theorem Zqu (l:List Int) (v:Int) (hl:l.length<2 ^ 62):CallEq Tryz.prog 130 [.ps 1 (ints l), .int .i64 v] (.int .i64 (idxF (fun x=>decide (v=x)) l 0)):=by
 refine CallEq.begin (rs:=[.tmp 4]) (m:=17) 1000 Tryz.func130 rfl rfl rfl (by decide) trivial ?_
 simp only [go_sem]
 refine EvK.loopI (ι:={i:Nat // i≤l.length∧idxF (fun x=>decide (v=x)) (l.drop i) i=idxF (fun x=>decide (v=x)) l 0}) 1000 (fun i=>mkT 19 [(0, .ps 1 (ints l)),(1, .int .i64 v),(7, .int .i64 l.length),(8, .int .i64 i.1)]) (fun _=>[]) (fun i=>l.length - i.1) ⟨0,by simp⟩ ?_ (fun _=>Nat.zero_le _) ?_
 ·simp only [go_sem,Za4,Zad,Int.natCast_zero]
 ·rintro ⟨i,hi,hpre⟩
  by_cases hlt:(i:Int)<l.length
  ·have hlt':i<l.length:=by omega
   have hd:idxF (fun x=>decide (v=x)) (l.drop i) i=if decide (v=l[i])=true then (i:Int) else idxF (fun x=>decide (v=x)) (l.drop (i+1)) ((i:Int)+1):=by
    rw [List.drop_eq_getElem_cons hlt'];rfl
   by_cases e:v=l[i]
   ·rw [hd,if_pos (by simp [← e])] at hpre
    simp only [go_sem,hlt,Zad,Int.toNat_natCast,Zbe hlt',← e]
    (repeat ((with_reducible refine And.intro ?_ ?_); ·omega))
    refine EvK.go 1000 ?_
    simp only [go_sem]
    rw [hpre]
   ·rw [hd,if_neg (by simp [e])] at hpre
    simp only [go_sem,hlt,Zad,Int.toNat_natCast,Zbe hlt',e]
    (repeat ((with_reducible refine And.intro ?_ ?_); ·omega))
    refine ⟨⟨i+1,hlt',hpre⟩,?_,by simp only;omega⟩
    simp only [go_sem,Za4]
    rw [Zab (by omega)];trivial
  ·have hi':i=l.length:=by omega
   subst hi'
   rw [List.drop_length] at hpre
   simp only [go_sem,hlt]
   refine EvK.go 1000 ?_
   simp only [go_sem,← hpre]
   trivial
theorem Ze2 (l:List Int) (v:Int) (hl:l.length<2 ^ 62):CallEq Tryz.prog 93 [.ps 1 (ints l), .int .i64 v] (.bool (decide (v∈l))):=by
 refine CallEq.begin (rs:=[.tmp 4]) (m:=7) 1000 Tryz.func93 rfl rfl rfl (by decide) trivial ?_
 simp only [go_sem]
 refine VCall.isoT [] (Zqu l v hl) (Za1 _ _ _) (by simp [go_sem,Za4]) ?_;simp only [flatR,flatA,flatC,if_true];refine EvK.go 1000 ?_
 simp only [go_sem,Zg8 _ l 0 (Int.le_refl 0)]
 congr 1
 rw [Bool.eq_iff_iff];simp
theorem Zuu (t:Tm) (hfit:t.fit) (hsz:t.size<999999999):CallEq Tryz.prog 90 [t.toA] (.ps 1 (ints t.vars)):=by
 refine CallEq.begin (rs:=[.tmp 2]) (m:=26) 1000 Tryz.func90 rfl rfl rfl (by decide) (Za4 _) ?_
 simp only [go_sem,Za6,Nat.le_refl]
 rw [← Za6]
 refine (Zu8 t _ ?_).mono ?_
 ·simp [go_sem,Za0]
 rintro _ _ ⟨rfl,rfl⟩
 refine EvK.go 1000 ?_
 simp only [go_sem]
 refine EvK.rangeFunc (mkT 27 [(3, .ptr 1 0)]) ?_ ?_ (fun ρ ht hpa hat hbo=>?_)
 ·simp only [go_sem]
 ·exact fun b hb=>by cases hb
 simp only [go_sem]
 have hpl:=Zjj t 1
 have hv0:=Yd0 t 1
 have hρl:lowL 4 ρ.tm:=by rw [ht];simp [go_sem,Zd7,Zf1]
 have hst:∀ l:List Int,lowSo 8 [some (.var [.int .i64 t.head, .ps 2 (t.args.map Tm.toA)]),some (.var [slA 4 1 (ints l)]),some (.var [.int .i64 t.head, .ps 2 (t.args.map Tm.toA)]),some (.loop (ρ.at .ready)),slB (ints l),none,none,none] :=
  fun l=>⟨⟨trivial,Za0 _,trivial⟩,⟨Zfk (by decide) 1 _,trivial⟩,⟨trivial,Za0 _,trivial⟩,Zac (by decide) hρl,Zdo _ (Za4 _),trivial,trivial,trivial,trivial⟩
 refine (Zo9 t hsz 4 (by decide) _ (fun _=>some (.var [.int .i64 t.head, .ps 2 (t.args.map Tm.toA)])) (fun k=>some (.var [slA 4 1 (ints (foldV ((t.pre 1).take k) []))])) (fun _=>some (.var [.int .i64 t.head, .ps 2 (t.args.map Tm.toA)])) (fun _=>some (.loop (ρ.at .ready)))
  (fun k=>slB (ints (foldV ((t.pre 1).take k) []))) (fun _=>none) (fun _=>none) (fun _=>none) 2 (.yld 3) rfl rfl rfl (by decide) (fun k=>hst _) ?_ (Nat.lt_succ_self 3) (fun k hk=>?_)).mono ?_
 ·exact ⟨⟨trivial,Za0 _,trivial⟩,⟨trivial,trivial⟩,⟨trivial,Za0 _,trivial⟩,hρl,trivial⟩
 ·have hf1:foldV ((t.pre 1).take (k+1)) []=addV (foldV ((t.pre 1).take k) []) (t.pre 1)[k]:=by rw [Zod hk,Zqn];rfl
  have hlen:=Ych ((t.pre 1).take k) []
  rw [List.length_take] at hlen
  have hfu:(t.pre 1)[k].2.fit:=Zzj t hfit 1 _ (List.getElem_mem hk)
  rw [hf1]
  generalize (t.pre 1)[k]=x at *
  generalize foldV ((t.pre 1).take k) []=o at *
  obtain ⟨d,u⟩:=x
  simp only at hfu
  have hfh : -9223372036854775808≤u.head∧u.head≤9223372036854775807:=by obtain ⟨h,ts⟩:=u;exact hfu.1
  have hwv:IntKind.i64.wrap (-1 - u.head) = -1 - u.head:=Zab (by omega)
  have hol:o.length<999999999:=by simp only [List.length_nil] at hlen;omega
  by_cases c1:u.head<0
  ·have hnn : 0≤-1 - u.head:=by omega
   have hav:addV o (d,u)=add1 o (-1 - u.head):=if_pos c1
   rw [hav]
   generalize hv : -1 - u.head=v at *
   by_cases c2:v∈o
   ·have hn:add1 o v=o:=if_pos c2
    rw [hn]
    refine VCall.stay rfl (hst _) ?_
    refine VCall.yieldK 1000 ht hpa hat hbo rfl rfl ?_
    simp only [go_sem,Za8,Nat.le_refl,List.length_map,hv,hwv,hnn]
    refine VCall.isoT [4] (Ze2 o v (by omega)) ?_ (by simp [go_sem,Za4]) ?_
    ·simp only [go_sem,Zb1,Zba,Zej]
    simp only [flatR,flatA,flatC,if_true]
    refine EvK.go 1000 ?_
    simp only [go_sem,c2]
    rw [Zfe]
    exact ⟨rfl,[some (.var [.int .i64 t.head, .ps 2 (t.args.map Tm.toA)]),some (.var [slA 4 1 (ints o)]),some (.var [.int .i64 t.head, .ps 2 (t.args.map Tm.toA)]),some (.loop (ρ.at .ready)),slB (ints o),none,none,none],by simp [go_sem],Nat.le_refl _,hst _,rfl,rfl⟩
   ·have hn:add1 o v=o++[v]:=if_neg c2
    have hsw:∀ b,b<4→pi [(4,10),(10,4)] b=b:=by decide
    rw [hn]
    refine VCall.move [(4,10),(10,4)] (S':=[some (.var [.int .i64 t.head, .ps 2 (t.args.map Tm.toA)]),some (.var [.os 10 0 (o.length+1) 1]),some (.var [.int .i64 t.head, .ps 2 (t.args.map Tm.toA)]),some (.loop (ρ.at .ready)),none,none,none,none,none,none,some (.row (ints o++[.int .i64 v]) 0)]) ?_ ?_ rfl ?_ ?_
    ·exact Nat.le_add_right 8 3
    ·exact ⟨⟨trivial,Za0 _,trivial⟩,⟨Nat.lt_succ_self 10,trivial⟩,⟨trivial,Za0 _,trivial⟩,Zac (Nat.le_add_right 4 7) hρl,trivial,trivial,trivial,trivial,trivial,trivial,Zbq (Za4 _) ⟨trivial,trivial⟩,trivial⟩
    ·have hl1:=Zfd (pi [(4,10),(10,4)]) 4 hsw (.loop (ρ.at .ready)) hρl
     simp only [Zex,Zh0,Zh2,Zfw,Zg3,Zk1,hl1]
     simp [go_sem,Za2 (Za0 _),Za2 (Za4 _),Za2 (Zbq (Za4 o) (show lowL 0 [AVal.int .i64 v] from ⟨trivial,trivial⟩)),Zad]
    refine VCall.yieldK 1000 ht hpa hat hbo rfl rfl ?_
    simp only [go_sem,Za8,Nat.le_refl,List.length_map,hv,hwv,hnn]
    refine VCall.isoT [4] (Ze2 o v (by omega)) ?_ (by simp [go_sem,Za4]) ?_
    ·simp only [go_sem,Zb1,Zba,Zej]
    simp only [flatR,flatA,flatC,if_true]
    refine EvK.go 1000 ?_
    simp only [go_sem,c2,appOk,List.mem_singleton,forall_eq,Nat.zero_lt_one,Ze3,Zad]
    refine ⟨by omega,?_⟩
    rw [Zfe]
    exact ⟨rfl,[some (.var [.int .i64 t.head, .ps 2 (t.args.map Tm.toA)]),some (.var [.os 10 0 (o.length+1) 1]),some (.var [.int .i64 t.head, .ps 2 (t.args.map Tm.toA)]),some (.loop (ρ.at .ready)),none,none,none,none,none,none,some (.row (ints o++[.int .i64 v]) 0)],by simp [go_sem],Nat.le_add_right 8 3,⟨⟨trivial,Za0 _,trivial⟩,⟨Nat.lt_succ_self 10,trivial⟩,⟨trivial,Za0 _,trivial⟩,Zac (Nat.le_add_right 4 7) hρl,trivial,trivial,trivial,trivial,trivial,trivial,Zbq (Za4 _) (show lowL 11 [AVal.int .i64 v] from ⟨trivial,trivial⟩),trivial⟩,rfl,rfl⟩
  ·have hn:addV o (d,u)=o:=if_neg c1
   rw [hn]
   refine VCall.stay rfl (hst _) ?_
   refine VCall.yieldK 1000 ht hpa hat hbo rfl rfl ?_
   have hnn:¬ 0≤-1 - u.head:=by omega
   simp only [go_sem,Za8,Nat.le_refl,List.length_map,hwv,hnn]
   rw [Zfe]
   exact ⟨rfl,[some (.var [.int .i64 t.head, .ps 2 (t.args.map Tm.toA)]),some (.var [slA 4 1 (ints o)]),some (.var [.int .i64 t.head, .ps 2 (t.args.map Tm.toA)]),some (.loop (ρ.at .ready)),slB (ints o),none,none,none],by simp [go_sem],Nat.le_refl _,hst _,rfl,rfl⟩
 rintro r' σ2 rfl
 rw [Zst]
 refine ⟨.ready,rfl,?_⟩
 rw [Zfz]
 rw [← hpl,List.take_length,hv0]
 refine EvK.go 1000 ?_
 simp only [go_sem]
 rw [Zej rfl rfl];trivial
end Go.Proofs
namespace Go.Proofs
open Go Go.Abs
mutual
def Tm.walk {ι:Type} (step : ι→Tm→Bool→ι):Tm→Bool→ι→ι
 | .mk h ts,top,x=>Tm.walks step ts (step x (.mk h ts) top)
def Tm.walks {ι:Type} (step : ι→Tm→Bool→ι):List Tm→ι→ι
 | [],x=>x
 | t :: ts,x=>Tm.walks step ts (t.walk step false x)
end
theorem Zlj {ι:Type} (step : ι→Tm→Bool→ι):∀ (ts:List Tm) (i:Nat) (hi:i<ts.length) (x : ι),Tm.walks step (ts.take (i+1)) x=ts[i].walk step false (Tm.walks step (ts.take i) x)
 | t :: ts,0,_,x=>by simp [Tm.walks]
 | t :: ts,i+1,hi,x=>by
  simp only [List.take_succ_cons,Tm.walks,List.getElem_cons_succ]
  exact Zlj step ts i (by simpa using hi) _
def seeT (g:List Sy) (x:Bool×Bool) (t:Tm) (top:Bool):Bool×Bool :=
 if t.head<0 then x else if (g.length:Int)≤t.head∨¬ (t.args.length:Int)=(symAt g t.head).arity then (true,x.2) else if (symAt g t.head).truth=true∧top=false then (x.1,true) else x
def hereKnown (g:List Sy) (t:Tm):Bool:=decide (t.head<0)||(!(decide ((g.length:Int)≤t.head))&&decide ((t.args.length:Int)=(symAt g t.head).arity))
theorem Zqd (g:List Sy) (h:Int) (ts:List Tm):hereKnown g (.mk h ts)=(decide (h<0)||(!(decide ((g.length:Int)≤h))&&decide ((ts.length:Int)=(symAt g h).arity))):=rfl
theorem Yo9 (g:List Sy) (x:Bool×Bool) (t:Tm) (top:Bool):(seeT g x t top).1=(x.1 || !hereKnown g t):=by
 unfold seeT hereKnown
 by_cases c1:t.head<0
 ·simp [c1]
 ·by_cases c2:(g.length:Int)≤t.head
  ·simp [c1,c2]
  ·by_cases c3:(t.args.length:Int)=(symAt g t.head).arity
   ·rw [if_neg c1,if_neg (by simp [c2,c3])]
    split<;>simp [c1,c2,c3]
   ·simp [c1,c2,c3]
theorem Zue {h:Int} {ts:List Tm} (hg:(Tm.mk h ts).good=true) (c:h<0):ts=[]:=by
 simp only [Tm.good,Bool.and_eq_true,Bool.not_eq_true',Bool.or_eq_false_iff,Bool.and_eq_false_iff,decide_eq_false_iff_not] at hg
 rcases hg.1.1.1.1 with h' | h'
 ·exact absurd c h'
 ·exact List.length_eq_zero_iff.1 (by omega)
theorem Zns {h:Int} {ts:List Tm} (hg:(Tm.mk h ts).good=true):Tm.goods ts=true:=by
 simp only [Tm.good,Bool.and_eq_true] at hg;exact hg.2
mutual
theorem Yis (g:List Sy):∀ (t:Tm) (top:Bool) (x:Bool×Bool),t.good=true→(t.walk (seeT g) top x).1=(x.1 || !t.known g)
 | .mk h ts,top,x,hg=>by
  simp only [Tm.walk,Tm.known]
  rw [Zyt g ts _ (Zns hg),Yo9,Zqd]
  by_cases c1:h<0
  ·have:=Zue hg c1
   subst this
   simp [c1,Tm.knowns]
  ·have e1:decide (h<0)=false:=decide_eq_false c1
   rw [e1]
   simp only [Bool.false_or,Bool.not_and,Bool.or_assoc]
theorem Zyt (g:List Sy):∀ (ts:List Tm) (x:Bool×Bool),Tm.goods ts=true→(Tm.walks (seeT g) ts x).1=(x.1 || !Tm.knowns g ts)
 | [],x,_=>by simp [Tm.walks,Tm.knowns]
 | t :: ts,x,hg=>by
  simp only [Tm.goods,Bool.and_eq_true] at hg
  simp only [Tm.walks,Tm.knowns]
  rw [Zyt g ts _ hg.2,Yis g t _ _ hg.1,Bool.not_and,Bool.or_assoc]
end
theorem Yof (g:List Sy) (x:Bool×Bool) (t:Tm) (top:Bool) (hk:hereKnown g t=true):(seeT g x t top).2=(x.2||(!top&&t.truth g)):=by
 unfold seeT
 unfold hereKnown at hk
 by_cases c1:t.head<0
 ·simp [c1,Tm.truth,show ¬ 0≤t.head by omega]
 ·simp only [decide_eq_false c1,Bool.false_or,Bool.and_eq_true,Bool.not_eq_true',decide_eq_false_iff_not,decide_eq_true_eq] at hk
  rw [if_neg c1,if_neg (by simp only [hk.2,not_true_eq_false,or_false];exact hk.1)]
  have h0 : 0≤t.head:=by omega
  have h1:t.head<(g.length:Int):=by omega
  cases ht:(symAt g t.head).truth<;>cases top<;>simp [Tm.truth,h0,h1,ht]
mutual
theorem Yif (g:List Sy):∀ (t:Tm) (top:Bool) (x:Bool×Bool),t.good=true→t.known g=true→(t.walk (seeT g) top x).2=(x.2||((!top&&t.truth g) || !t.things g))
 | .mk h ts,top,x,hg,hk=>by
  have hh:hereKnown g (.mk h ts)=true:=by
   simp only [Tm.known,Bool.or_eq_true,Bool.and_eq_true] at hk
   simp only [hereKnown,Tm.head,Tm.args,Bool.or_eq_true,Bool.and_eq_true]
   exact hk.imp id And.left
  have hks:Tm.knowns g ts=true:=by
   by_cases c1:h<0
   ·rw [Zue hg c1];rfl
   ·simp only [Tm.known,decide_eq_false c1,Bool.false_or,Bool.and_eq_true] at hk;exact hk.2
  simp only [Tm.walk,Tm.things]
  rw [Yc4 g ts _ (Zns hg) hks,Yof g x _ top hh,Bool.or_assoc]
theorem Yc4 (g:List Sy):∀ (ts:List Tm) (x:Bool×Bool),Tm.goods ts=true→Tm.knowns g ts=true→(Tm.walks (seeT g) ts x).2=(x.2 || !Tm.thingsL g ts)
 | [],x,_,_=>by simp [Tm.walks,Tm.thingsL]
 | t :: ts,x,hg,hk=>by
  simp only [Tm.goods,Tm.knowns,Bool.and_eq_true] at hg hk
  simp only [Tm.walks,Tm.thingsL]
  rw [Yc4 g ts _ hg.2 hk.2,Yif g t _ _ hg.1 hk.1]
  cases t.truth g<;>cases t.things g<;>cases x.2<;>simp
end
end Go.Proofs
namespace Go.Proofs
open Go Go.Abs
attribute [local go_sem] Nat.reduceAdd Nat.reduceSub Nat.reduceMul Nat.reduceLeDiff Nat.reduceEqDiff Nat.reduceBEq
theorem Ymk {ι:Type} (b0 b1 b2 b3 b4 b5 b6 b7 : ι→Option Blk) (step : ι→Tm→Bool→ι) (c:AVal) (hs:∀ x,lowSo 8 [b0 x,b1 x,b2 x,b3 x,b4 x,b5 x,b6 x,b7 x]) (hc:c.low 8)
  (hy:∀ x t top,VCall Tryz.prog c [t.toA, .bool top] [b0 x,b1 x,b2 x,b3 x,b4 x,b5 x,b6 x,b7 x] (fun _ σ'=>σ'=[b0 (step x t top),b1 (step x t top),b2 (step x t top),b3 (step x t top),b4 (step x t top),b5 (step x t top),b6 (step x t top),b7 (step x t top)])) (t:Tm) :
  t.size<2 ^ 62→∀ top x,VCall Tryz.prog (.fn 170 [] []) [t.toA, .bool top,c] [b0 x,b1 x,b2 x,b3 x,b4 x,b5 x,b6 x,b7 x]
   (fun r σ'=>r = .tup []∧σ'=[b0 (t.walk step top x),b1 (t.walk step top x),b2 (t.walk step top x),b3 (t.walk step top x),b4 (t.walk step top x),b5 (t.walk step top x),b6 (t.walk step top x),b7 (t.walk step top x)]):=by
 induction t using Tm.rec_args with
 | h h ts ih =>
 intro hsz top x
 simp only [Tm.size] at hsz
 have hlen:=Zaj ts
 have hc9:=Zau (m:=9) (by decide) hc
 refine VCall.begin (rs:=[]) (m:=20) 1000 Tryz.func170 rfl rfl rfl rfl rfl ?_
 simp only [go_sem,Za6,Tm.head,Tm.args,Nat.le_refl]
 rw [Ydb]
 refine VCall.tail (σ:=[b0 x,b1 x,b2 x,b3 x,b4 x,b5 x,b6 x,b7 x]) (τ:=[some (.var [.int .i64 h, .ps 2 (ts.map Tm.toA)])]) hc (by simp [go_sem,Za7]) (hs x) ?_
 refine (hy x (.mk h ts) top).mono ?_
 rintro r σ' rfl
 refine ⟨rfl,?_⟩
 refine EvK.go 1000 ?_
 simp only [go_sem,List.length_map]
 generalize hx1:step x (.mk h ts) top=x1
 have hend:Tm.walk step (.mk h ts) top x=Tm.walks step ts x1:=by rw [← hx1];rfl
 rw [hend]
 refine EvK.loopI (ι:={i:Nat // i≤ts.length}) 1000 (fun i=>mkT 23 [(2,c),(13, .ps 2 (ts.map Tm.toA)),(14, .int .i64 ts.length),(15, .int .i64 i.1)]) (fun i=>[b0 (Tm.walks step (ts.take i.1) x1),b1 (Tm.walks step (ts.take i.1) x1),b2 (Tm.walks step (ts.take i.1) x1),b3 (Tm.walks step (ts.take i.1) x1),b4 (Tm.walks step (ts.take i.1) x1),b5 (Tm.walks step (ts.take i.1) x1),b6 (Tm.walks step (ts.take i.1) x1),b7 (Tm.walks step (ts.take i.1) x1),some (.var [.int .i64 h, .ps 2 (ts.map Tm.toA)])]) (fun i=>ts.length - i.1) ⟨0,by omega⟩ ?_ (fun _=>Nat.le_add_right 8 1) ?_
 ·have h9:=Zam (m:=9) (by decide) (hs x1)
  simp only [Zde,Zhe,and_true] at h9
  simp only [go_sem,hc9,Za0,Zde,h9,List.take_zero,Tm.walks,Zjr,Int.natCast_zero]
 ·rintro ⟨i,hi⟩
  by_cases hlt:(i:Int)<ts.length
  ·have hlt':i<ts.length:=by omega
   have hsz2:=Zb2 ts i hlt'
   have hsn:=Zlj step ts i hlt' x1
   simp only [go_sem,hlt,List.length_map,Int.toNat_natCast,Zaq hlt',Za8,Nat.le_refl]
   rw [← Za6]
   (repeat ((with_reducible refine And.intro ?_ ?_); ·omega))
   refine VCall.tail (σ:=[b0 (Tm.walks step (ts.take i) x1),b1 (Tm.walks step (ts.take i) x1),b2 (Tm.walks step (ts.take i) x1),b3 (Tm.walks step (ts.take i) x1),b4 (Tm.walks step (ts.take i) x1),b5 (Tm.walks step (ts.take i) x1),b6 (Tm.walks step (ts.take i) x1),b7 (Tm.walks step (ts.take i) x1)]) (τ:=[some (.var [.int .i64 h, .ps 2 (ts.map Tm.toA)]),some (.var [.int .i64 ts[i].head, .ps 2 (ts[i].args.map Tm.toA)])]) ⟨trivial,trivial⟩ (by simp [go_sem,Za7,hc]) (hs _) ?_
   refine (ih i hlt' (by omega) false _).mono ?_
   rintro r' σ2 ⟨rfl,rfl⟩
   refine ⟨rfl,?_⟩
   rw [← hsn]
   refine EvK.go 1000 ?_
   simp only [go_sem]
   refine ⟨⟨i+1,hlt'⟩,?_,by simp only;omega⟩
   have h9:=Zam (m:=9) (by decide) (hs (Tm.walks step (ts.take (i+1)) x1))
   simp only [Zde,Zhe,and_true] at h9
   simp only [go_sem,hc9,Za0,Zde,h9,Zjr]
   rw [Zab (by omega)];rfl
  ·have hi':i=ts.length:=by omega
   subst hi'
   simp only [go_sem,hlt,List.take_length]
   refine EvK.go 1000 ?_
   simp only [go_sem]
   rw [Zax]
   exact ⟨[b0 (Tm.walks step ts x1),b1 (Tm.walks step ts x1),b2 (Tm.walks step ts x1),b3 (Tm.walks step ts x1),b4 (Tm.walks step ts x1),b5 (Tm.walks step ts x1),b6 (Tm.walks step ts x1),b7 (Tm.walks step ts x1)],by simp [go_sem],Nat.le_refl _,hs _,trivial,rfl,rfl⟩
theorem Ye8 (g:List Sy) (b1:Option Blk) (hb1:lowO 8 b1) (x:Bool×Bool) (t:Tm) (top:Bool):VCall Tryz.prog (.fn 171 [] [.ptr 0 0, .ptr 2 0, .ptr 3 0]) [t.toA, .bool top] [some (.var [.ps 4 (syms g)]),b1,some (.var [.bool x.1]),some (.var [.bool x.2]),none,none,none,none]
  (fun _ σ'=>σ'=[some (.var [.ps 4 (syms g)]),b1,some (.var [.bool (seeT g x t top).1]),some (.var [.bool (seeT g x t top).2]),none,none,none,none]):=by
 obtain ⟨un,mx⟩:=x
 have hlow:∀ u m,lowSo 8 [some (.var [.ps 4 (syms g)]),b1,some (.var [.bool u]),some (.var [.bool m]),none,none,none,none]:=fun u m=>⟨⟨Za5 g,trivial⟩,hb1,⟨trivial,trivial⟩,⟨trivial,trivial⟩,trivial,trivial,trivial,trivial,trivial⟩
 refine VCall.begin (rs:=[]) (m:=35) 1000 Tryz.func171 rfl rfl rfl rfl rfl ?_
 by_cases c1:t.head<0
 ·have hsee:seeT g (un,mx) t top=(un,mx):=if_pos c1
  simp only [go_sem,Za6,c1]
  rw [Zax]
  exact ⟨[some (.var [.ps 4 (syms g)]),b1,some (.var [.bool un]),some (.var [.bool mx]),none,none,none,none],by simp [go_sem],Nat.le_refl _,hlow _ _,trivial,by rw [hsee]⟩
 simp only [go_sem,Za6,c1]
 refine EvK.draw [] 9 9 mixed rfl rfl (Nat.le_refl _) ?_
 by_cases c2:(g.length:Int)≤t.head
 ·have hsee:seeT g (un,mx) t top=(true,mx):=by rw [seeT,if_neg c1,if_pos (.inl c2)]
  simp only [go_sem,padS,Zal,c2]
  refine EvK.go 1000 ?_
  simp only [go_sem]
  rw [Zax]
  exact ⟨[some (.var [.ps 4 (syms g)]),b1,some (.var [.bool true]),some (.var [.bool mx]),none,none,none,none],by simp [go_sem],Nat.le_refl _,hlow _ _,trivial,by rw [hsee]⟩
 have hi:t.head.toNat<g.length:=by omega
 have hsy:symAt g t.head=g[t.head.toNat]:=Zd5 hi
 by_cases c3:(t.args.length:Int)=g[t.head.toNat].arity
 ·simp only [go_sem,padS,Zal,c2,List.length_map,Zb6 hi,Zaz,c3,Nat.le_refl]
  (repeat ((with_reducible refine And.intro ?_ ?_); ·omega))
  refine EvK.go 1000 ?_
  cases ht:g[t.head.toNat].truth with
  | false =>
   have hsee:seeT g (un,mx) t top=(un,mx):=by rw [seeT,if_neg c1,if_neg (by rw [hsy];simp only [c3,not_true_eq_false,or_false];exact c2),if_neg (by rw [hsy,ht];simp)]
   simp only [go_sem,Zal,Zb6 hi,Zaz,ht]
   (repeat ((with_reducible refine And.intro ?_ ?_); ·omega))
   rw [Zax]
   exact ⟨[some (.var [.ps 4 (syms g)]),b1,some (.var [.bool un]),some (.var [.bool mx]),none,none,none,none],by simp [go_sem],Nat.le_refl _,hlow _ _,trivial,by rw [hsee]⟩
  | true =>
   cases top with
   | false =>
    have hsee:seeT g (un,mx) t false=(un,true):=by rw [seeT,if_neg c1,if_neg (by rw [hsy];simp only [c3,not_true_eq_false,or_false];exact c2),if_pos (by rw [hsy,ht];simp)]
    simp only [go_sem,Zal,Zb6 hi,Zaz,ht]
    (repeat ((with_reducible refine And.intro ?_ ?_); ·omega))
    rw [Zax]
    exact ⟨[some (.var [.ps 4 (syms g)]),b1,some (.var [.bool un]),some (.var [.bool true]),none,none,none,none],by simp [go_sem],Nat.le_refl _,hlow _ _,trivial,by rw [hsee]⟩
   | true =>
    have hsee:seeT g (un,mx) t true=(un,mx):=by rw [seeT,if_neg c1,if_neg (by rw [hsy];simp only [c3,not_true_eq_false,or_false];exact c2),if_neg (by simp)]
    simp only [go_sem,Zal,Zb6 hi,Zaz,ht]
    (repeat ((with_reducible refine And.intro ?_ ?_); ·omega))
    rw [Zax]
    exact ⟨[some (.var [.ps 4 (syms g)]),b1,some (.var [.bool un]),some (.var [.bool mx]),none,none,none,none],by simp [go_sem],Nat.le_refl _,hlow _ _,trivial,by rw [hsee]⟩
 ·have hsee:seeT g (un,mx) t top=(true,mx):=by rw [seeT,if_neg c1,if_pos (.inr (by rw [hsy];exact c3))]
  simp only [go_sem,padS,Zal,c2,List.length_map,Zb6 hi,Zaz,c3,Nat.le_refl]
  (repeat ((with_reducible refine And.intro ?_ ?_); ·omega))
  refine EvK.go 1000 ?_
  simp only [go_sem]
  rw [Zax]
  exact ⟨[some (.var [.ps 4 (syms g)]),b1,some (.var [.bool true]),some (.var [.bool mx]),none,none,none,none],by simp [go_sem],Nat.le_refl _,hlow _ _,trivial,by rw [hsee]⟩
theorem Zmt (g:List Sy) (t:Tm) (hsz:t.size<999999999):CallEq Tryz.prog 140 [.ps 4 (syms g),t.toA] (.int .i64 (t.term g)):=by
 refine CallEq.begin (rs:=[.tmp 4]) (m:=24) 1000 Tryz.func140 rfl rfl rfl (by decide) trivial ?_
 simp only [go_sem,Za6,Nat.le_refl]
 refine VCall.isoT [] (Zk9 g) (Za1 _ _ _) (by simp [go_sem,Za5]) ?_;simp only [flatR,flatA,flatC,if_true];refine EvK.go 1000 ?_
 cases c1:sigOk g with
 | false=>simp only [go_sem,Tm.term,c1,Int.reduceEq]
 | true =>
 simp only [go_sem,Nat.le_refl]
 rw [← Za6]
 refine VCall.isoT [] (Zfi t hsz) (Za1 _ _ _) (by simp [go_sem,Za7]) ?_;simp only [flatR,flatA,flatC,if_true];refine EvK.go 1000 ?_
 by_cases c2:t.check=0
 case neg=>simp only [go_sem,c2,Tm.term,c1]
 simp only [go_sem,c2,Nat.le_refl]
 rw [← Za6]
 have hgd:=(Zi0 c2).1
 have hb1:lowO 8 (some (.var [.int .i64 t.head, .ps 2 (t.args.map Tm.toA)])):=⟨trivial,Za0 _,trivial⟩
 refine VCall.pad 4 ?_
 refine (Ymk (ι:=Bool×Bool) (fun _=>some (.var [.ps 4 (syms g)])) (fun _=>some (.var [.int .i64 t.head, .ps 2 (t.args.map Tm.toA)])) (fun x=>some (.var [.bool x.1])) (fun x=>some (.var [.bool x.2])) (fun _=>none) (fun _=>none) (fun _=>none) (fun _=>none)
  (seeT g) (.fn 171 [] [.ptr 0 0, .ptr 2 0, .ptr 3 0]) (fun x=>⟨⟨Za5 g,trivial⟩,hb1,⟨trivial,trivial⟩,⟨trivial,trivial⟩,trivial,trivial,trivial,trivial,trivial⟩) (by simp [go_sem]) (fun x t top=>Ye8 g _ hb1 x t top) t (by omega) true (false,false)).mono ?_
 rintro r σ' ⟨rfl,rfl⟩
 rw [Zax]
 refine ⟨[some (.var [.ps 4 (syms g)]),some (.var [.int .i64 t.head, .ps 2 (t.args.map Tm.toA)]),some (.var [.bool (t.walk (seeT g) true (false,false)).1]),some (.var [.bool (t.walk (seeT g) true (false,false)).2])],by simp [go_sem],Nat.le_refl _,⟨⟨Za5 g,trivial⟩,⟨trivial,Za0 _,trivial⟩,⟨trivial,trivial⟩,⟨trivial,trivial⟩,trivial⟩,trivial,?_⟩
 rw [Yis g t true _ hgd]
 refine EvK.go 1000 ?_
 cases c3:t.known g with
 | false =>
  simp only [go_sem]
  simp [Tm.term,c1,c2,c3]
 | true =>
  rw [Yif g t true _ hgd c3]
  cases c4:t.things g with
  | false =>
   simp only [go_sem]
   simp [Tm.term,c1,c2,c3,c4]
  | true =>
   simp only [go_sem]
   simp [Tm.term,c1,c2,c3,c4]
def sideA (g:List Sy) (l:Li):AVal:=.agg [.ps 4 (syms g), .bool l.neg, .int .i64 l.l.head, .ps 2 (l.l.args.map Tm.toA), .int .i64 l.r.head, .ps 2 (l.r.args.map Tm.toA)]
theorem Zcb (g:List Sy) (l:Li):sideA g l = .agg [.ps 4 (syms g), .bool l.neg, .int .i64 l.l.head, .ps 2 (l.l.args.map Tm.toA), .int .i64 l.r.head, .ps 2 (l.r.args.map Tm.toA)]:=rfl
theorem Ze9 {n:Nat} (g:List Sy) (l:Li):(sideA g l).low n:=⟨Za5 _,trivial,trivial,Za0 _,trivial,Za0 _,trivial⟩
theorem Yjm (g:List Sy) (l:Li) (hsz:l.l.size<999999999):CallEq Tryz.prog 103 [sideA g l] (.int .i64 (l.l.term g)):=by
 refine CallEq.begin (rs:=[.tmp 2]) (m:=8) 1000 Tryz.func103 rfl rfl rfl (by decide) trivial ?_
 simp only [go_sem,Zcb,Nat.le_refl]
 rw [← Za6]
 refine VCall.isoT [] (Zmt g l.l hsz) (Za1 _ _ _) (by simp [go_sem,Za5,Za7]) ?_;simp only [flatR,flatA,flatC,if_true];refine EvK.go 1000 ?_
 simp only [go_sem]
theorem Ybz (g:List Sy) (l:Li) (hsz:l.r.size<999999999):CallEq Tryz.prog 104 [sideA g l] (.int .i64 (l.r.term g)):=by
 refine CallEq.begin (rs:=[.tmp 2]) (m:=8) 1000 Tryz.func104 rfl rfl rfl (by decide) trivial ?_
 simp only [go_sem,Zcb,Nat.le_refl]
 rw [← Za6]
 refine VCall.isoT [] (Zmt g l.r hsz) (Za1 _ _ _) (by simp [go_sem,Za5,Za7]) ?_;simp only [flatR,flatA,flatC,if_true];refine EvK.go 1000 ?_
 simp only [go_sem]
theorem Zq4 (g:List Sy) (l:Li) (t:Tm) (h:t.head<g.length):CallEq Tryz.prog 141 [sideA g l,t.toA] (.bool (t.truth g)):=by
 refine CallEq.begin (rs:=[.tmp 4]) (m:=15) 1000 Tryz.func141 rfl rfl rfl (by decide) trivial ?_
 by_cases c1 : 0≤t.head
 ·have hi:t.head.toNat<g.length:=by omega
  have hsy:symAt g t.head=g[t.head.toNat]:=Zd5 hi
  simp only [go_sem,Zcb,Za6,c1,Zal,Zb6 hi,Zaz]
  refine ⟨by omega,?_⟩
  simp [Tm.truth,c1,h,hsy]
 ·simp only [go_sem,Zcb,Za6,c1,Tm.truth]
def Li.sorts (g:List Sy) (l:Li):Int:=if (l.l.truth g&&decide (l.r.head≠0))||(!l.l.truth g&&l.r.truth g) then 10 else 0
theorem Ydp (g:List Sy) (l:Li) (h1:l.l.head<g.length) (h2:l.r.head<g.length):CallEq Tryz.prog 105 [sideA g l] (.int .i64 (l.sorts g)):=by
 refine CallEq.begin (rs:=[.tmp 2]) (m:=27) 1000 Tryz.func105 rfl rfl rfl (by decide) trivial ?_
 simp only [go_sem,Zcb,Nat.le_refl]
 rw [← Za6,← Zcb]
 refine VCall.isoT [] (Zq4 g l l.l h1) (Za1 _ _ _) (by simp [go_sem,Ze9,Za7]) ?_;simp only [flatR,flatA,flatC,if_true];refine EvK.go 1000 ?_
 cases c1:l.l.truth g with
 | true =>
  by_cases c2:l.r.head=0
  ·simp only [go_sem,c2]
   simp [Li.sorts,c1,c2]
  ·simp only [go_sem,c2]
   simp [Li.sorts,c1,c2]
 | false =>
  simp only [go_sem,Nat.le_refl]
  rw [← Za6,← Zcb]
  refine VCall.isoT [] (Zq4 g l l.r h2) (Za1 _ _ _) (by simp [go_sem,Ze9,Za7]) ?_;simp only [flatR,flatA,flatC,if_true];refine EvK.go 1000 ?_
  cases c2:l.r.truth g <;>
  ·simp only [go_sem]
   simp [Li.sorts,c1,c2]
theorem Zcw (g:List Sy) (l:Li):l.check g=if l.l.term g≠0 then l.l.term g else if l.r.term g≠0 then l.r.term g else l.sorts g:=rfl
theorem Yb1 {g:List Sy} {t:Tm} (h:t.known g=true) (hg : 1≤g.length):t.head<g.length:=by
 obtain ⟨hd,ts⟩:=t
 simp only [Tm.head]
 by_cases c:hd<0
 ·omega
 ·simp only [Tm.known,decide_eq_false c,Bool.false_or,Bool.and_eq_true,Bool.not_eq_true',decide_eq_false_iff_not] at h
  omega
theorem Yg2 {g:List Sy} {t:Tm} (h:t.term g=0):sigOk g=true:=by
 unfold Tm.term at h
 split at h
 ·omega
 ·rename_i h2;simpa using h2
theorem Yhm (g:List Sy) (l:Li) (hl:l.l.size<999999999) (hr:l.r.size<999999999):CallEq Tryz.prog 102 [sideA g l, .ps 1 [.fn 103 [] [], .fn 104 [] [], .fn 105 [] []]] (.int .i64 (l.check g)):=by
 refine CallEq.begin (rs:=[.tmp 4]) (m:=19) 1000 Tryz.func102 rfl rfl rfl (by decide) trivial ?_
 simp only [go_sem,Zcb]
 refine EvK.loopI (ι:={i:Nat // i≤3∧(1≤i→l.l.term g=0)∧(2≤i→l.r.term g=0)∧(3≤i→l.sorts g=0)}) 1000 (fun i=>mkT 21 [(2, .ptr 0 0),(8, .ps 1 [.fn 103 [] [], .fn 104 [] [], .fn 105 [] []]),(9, .int .i64 ((3:Nat):Int)),(10, .int .i64 i.1)])
  (fun _=>[some (.var [.ps 4 (syms g), .bool l.neg, .int .i64 l.l.head, .ps 2 (l.l.args.map Tm.toA), .int .i64 l.r.head, .ps 2 (l.r.args.map Tm.toA)])]) (fun i=>3 - i.1) ⟨0,by omega,by omega,by omega,by omega⟩ ?_ (fun _=>Nat.zero_le _) ?_
 ·simp only [go_sem,Za5,Za0,Int.natCast_zero,Nat.zero_lt_one]
 ·rintro ⟨i,hi,h1,h2,h3⟩
  have n0:((0:Nat):Int)=0:=rfl
  have n1:((1:Nat):Int)=1:=rfl
  have n2:((2:Nat):Int)=2:=rfl
  have n3:((3:Nat):Int)=3:=rfl
  rcases (by omega:i=0∨i=1∨i=2∨i=3) with rfl | rfl | rfl | rfl
  ·simp only [go_sem,n0,n1,n2,n3,Int.reduceLT,Int.reduceLE,List.length_cons,List.length_nil,Int.reduceToNat,List.getD_cons_zero,List.getD_cons_succ,Nat.le_refl]
   rw [← Zcb]
   refine VCall.isoT [] (Yjm g l hl) (Za1 _ _ _) (by simp [go_sem,Ze9]) ?_;simp only [flatR,flatA,flatC,if_true];refine EvK.go 1000 ?_
   by_cases c:l.l.term g=0
   ·simp only [go_sem,c]
    refine ⟨⟨1,by omega,fun _=>c,by omega,by omega⟩,?_,by simp only;omega⟩
    simp only [go_sem,Za5,Za0,Nat.zero_lt_one]
    rfl
   ·simp only [go_sem,c]
    refine EvK.go 1000 ?_
    simp only [go_sem]
    rw [Zcw,if_pos c]
  ·simp only [go_sem,n0,n1,n2,n3,Int.reduceLT,Int.reduceLE,List.length_cons,List.length_nil,Int.reduceToNat,List.getD_cons_zero,List.getD_cons_succ,Nat.le_refl]
   rw [← Zcb]
   refine VCall.isoT [] (Ybz g l hr) (Za1 _ _ _) (by simp [go_sem,Ze9]) ?_;simp only [flatR,flatA,flatC,if_true];refine EvK.go 1000 ?_
   by_cases c:l.r.term g=0
   ·simp only [go_sem,c]
    refine ⟨⟨2,by omega,fun _=>h1 (by omega),fun _=>c,by omega⟩,?_,by simp only;omega⟩
    simp only [go_sem,Za5,Za0,Nat.zero_lt_one]
    rfl
   ·simp only [go_sem,c]
    refine EvK.go 1000 ?_
    simp only [go_sem]
    rw [Zcw,if_neg (by simp [h1 (by omega)]),if_pos c]
  ·have t1:=h1 (by omega)
   have t2:=h2 (by omega)
   have hg:=(Zoa (Yg2 t1)).1
   simp only [go_sem,n0,n1,n2,n3,Int.reduceLT,Int.reduceLE,List.length_cons,List.length_nil,Int.reduceToNat,List.getD_cons_zero,List.getD_cons_succ,Nat.le_refl]
   rw [← Zcb]
   refine VCall.isoT [] (Ydp g l (Yb1 (Zb8 t1).2.1 hg) (Yb1 (Zb8 t2).2.1 hg)) (Za1 _ _ _) (by simp [go_sem,Ze9]) ?_;simp only [flatR,flatA,flatC,if_true];refine EvK.go 1000 ?_
   by_cases c:l.sorts g=0
   ·simp only [go_sem,c]
    refine ⟨⟨3,by omega,fun _=>t1,fun _=>t2,fun _=>c⟩,?_,by simp only;omega⟩
    simp only [go_sem,Za5,Za0,Nat.zero_lt_one]
    rfl
   ·simp only [go_sem,c]
    refine EvK.go 1000 ?_
    simp only [go_sem]
    rw [Zcw,if_neg (by simp [t1]),if_neg (by simp [t2])]
  ·simp only [go_sem,n0,n1,n2,n3,Int.reduceLT]
   refine EvK.go 1000 ?_
   simp only [go_sem]
   rw [Zcw,if_neg (by simp [h1 (by omega)]),if_neg (by simp [h2 (by omega)]),h3 (by omega)]
theorem Zkw (g:List Sy) (l:Li) (hl:l.l.size<999999999) (hr:l.r.size<999999999):CallEq Tryz.prog 64 [.ps 4 (syms g),l.toA] (.int .i64 (l.check g)):=by
 refine CallEq.begin (rs:=[.tmp 4]) (m:=8) 1000 Tryz.func64 rfl rfl rfl (by decide) trivial ?_
 simp only [go_sem,Li.toA,Li.cs]
 refine ⟨rfl,rfl,rfl,by decide,?_⟩
 rw [← Zcb]
 refine VCall.isoT [1] (Yhm g l hl hr) ?_ (by simp [go_sem,Ze9]) ?_
 ·simp only [go_sem,Zb1,Zba]
 simp only [flatR,flatA,flatC,if_true]
 refine EvK.go 1000 ?_
 simp only [go_sem]
theorem Zhr (g:List Sy) (c:List Li) (hs:∀ (i:Nat) (h:i<c.length),c[i].l.size<999999999∧c[i].r.size<999999999):CallEq Tryz.prog 36 [.ps 4 (syms g), .ps 5 (lits c)] (.int .i64 (clauseCheck g c)):=by
 refine CallEq.begin (rs:=[.tmp 4]) (m:=28) 1000 Tryz.func36 rfl rfl rfl (by decide) trivial ?_
 simp only [go_sem]
 refine VCall.isoT [] (Zk9 g) (Za1 _ _ _) (by simp [go_sem,Za5]) ?_;simp only [flatR,flatA,flatC,if_true];refine EvK.go 1000 ?_
 cases c1:sigOk g with
 | false =>
  simp only [go_sem,Int.reduceEq]
  simp [clauseCheck,c1]
 | true =>
 by_cases c2 : 32<(c.length:Int)
 ·simp only [go_sem,Zaf,c2]
  simp [clauseCheck,c1,c2]
 simp only [go_sem,Zaf,c2]
 have hcc:clauseCheck g c=litsCheck g c:=by simp [clauseCheck,c1,c2]
 rw [hcc]
 refine EvK.loopI (ι:={i:Nat // i≤c.length∧litsCheck g (c.drop i)=litsCheck g c}) 1000 (fun i=>mkT 30 [(0, .ps 4 (syms g)),(17, .ps 5 (lits c)),(18, .int .i64 c.length),(19, .int .i64 i.1)]) (fun _=>[]) (fun i=>c.length - i.1) ⟨0,by simp⟩ ?_ (fun _=>Nat.zero_le _) ?_
 ·simp only [go_sem,Za5,Za3,Zaf,Int.natCast_zero]
 ·rintro ⟨i,hi,hpre⟩
  by_cases hlt:(i:Int)<c.length
  ·have hlt':i<c.length:=by omega
   rw [Zg9 g c i hlt'] at hpre
   simp only [go_sem,Zaf,hlt,Int.toNat_natCast,Zc6 hlt',Zaw,Nat.le_refl]
   refine ⟨by omega,?_⟩
   have hsz:=hs i hlt'
   refine VCall.isoT [] (Zkw g c[i] hsz.1 hsz.2) (by simp only [Li.toA,Li.cs];exact Za1 _ _ _) (by simp [go_sem,Za5,Zcp]) ?_
   simp only [flatR,flatA,flatC,if_true]
   refine EvK.go 1000 ?_
   by_cases c3:c[i].check g=0
   ·simp only [go_sem,c3]
    rw [if_neg (by simp [c3])] at hpre
    refine ⟨⟨i+1,hlt',hpre⟩,?_,by simp only;omega⟩
    simp only [go_sem,Za5,Za3]
    rw [Zab (by omega)];rfl
   ·simp only [go_sem,c3]
    rw [if_pos c3] at hpre
    refine EvK.go 1000 ?_
    simp only [go_sem,hpre]
  ·simp only [go_sem,Zaf,hlt]
   refine EvK.go 1000 ?_
   simp only [go_sem]
   have:i=c.length:=by omega
   subst this
   rw [← hpre,List.drop_length,litsCheck]
end Go.Proofs
