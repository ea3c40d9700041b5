/- Part 43 of what the claim rests on. -/
import Derived.Test.YtfjbdamcmiglgaaGreatOwn42
import Derived.Test.YtfjbdamcmiglgaaGreatProg
import Derived.KernelRfl
set_option linter.all false
abbrev eK:=@Bool.eq_iff_iff
abbrev bU:=@Bool.false_and
abbrev cD:=@Bool.false_or
abbrev ij:=@Bool.not_eq_false'
abbrev pP:=@Bool.or_assoc
abbrev cZ:=@Bool.or_eq_false_iff
abbrev nk:=@Int.le_refl
abbrev kY:=@Int.lt_irrefl
abbrev fJ:=@Int.natCast_add
abbrev fK:=@Int.natCast_one
abbrev bP:=@Int.natCast_zero
abbrev bh:=@Int.toNat_natCast
abbrev rP:=@List.any_append
abbrev dI:=@List.any_cons
abbrev cP:=@List.any_eq_true
abbrev fD:=@List.any_nil
abbrev kZ:=@List.cons.inj
abbrev ai:=@List.drop_eq_getElem_cons
abbrev aJ:=@List.drop_length
abbrev n5:=@List.drop_succ_cons
abbrev qn:=@List.filter_cons
abbrev qo:=@List.flatMap_nil
abbrev pz:=@List.foldl_append
abbrev df:=@List.getElem_cons_succ
abbrev d_:=@List.getElem_cons_zero
abbrev dT:=@List.length_eq_zero_iff
abbrev cf:=@List.map_append
abbrev m_:=@List.map_take
abbrev j6:=@List.mem_iff_getElem
abbrev np:=@List.mem_of_mem_take
abbrev gC:=@List.nodup_append
abbrev dU:=@List.not_mem_nil
abbrev pA:=@List.reverse_cons
abbrev cx:=@List.take_add_one
abbrev bQ:=@List.take_length
abbrev aO:=@List.take_of_length_le
abbrev cW:=@List.take_succ_cons
abbrev jh:=@List.take_zero
abbrev eH:=@Nat.le_succ
abbrev ly:=@Nat.min_eq_left
abbrev eX:=@Nat.one_lt_two
abbrev bF:=@Nat.zero_lt_one
abbrev cR:=@Nat.zero_lt_two
abbrev dx:=@Option.toList_some
namespace Go.Proofs
open Go Go.dq
@[go_sem]theorem aqw:cC Tryz.prog 3=some ⟨1,false,8,[.int .i64 0],(.int .i64)⟩:=by kernel_rfl
@[go_sem]theorem ty3:gF Tryz.prog 3=some ⟨⟨1,false,8,[.int .i64 0],(.int .i64)⟩,[],none,none⟩:=by kernel_rfl
@[go_sem]theorem aqx:cC Tryz.prog 4=some ⟨1,false,1,[.bool false],.bool⟩:=by kernel_rfl
@[go_sem]theorem aqy:cC Tryz.prog 9=some ⟨1,false,16,[.str ⟨#[]⟩],.str⟩:=by kernel_rfl
@[go_sem]theorem ty9:gF Tryz.prog 9=some ⟨⟨1,false,16,[.str ⟨#[]⟩],.str⟩,[],none,none⟩:=by kernel_rfl
@[go_sem]theorem Xdm:cC Tryz.prog 22=some ⟨1,false,24,[.a8],.slice⟩:=by kernel_rfl
@[go_sem]theorem aqD:gF Tryz.prog 22=some ⟨⟨1,false,24,[.a8],.slice⟩,[],some ⟨4,true,40,[.str ⟨#[]⟩,.int .i64 0,.int .i64 0,.bool false],.struct⟩,none⟩:=by kernel_rfl
@[go_sem]theorem Xds:cC Tryz.prog 23=some ⟨1,false,24,[.a8],.slice⟩:=by kernel_rfl
@[go_sem]theorem aqE:gF Tryz.prog 23=some ⟨⟨1,false,24,[.a8],.slice⟩,[],some ⟨1,false,24,[.a8],.slice⟩,none⟩:=by kernel_rfl
@[go_sem]theorem Xc8:cC Tryz.prog 24=some ⟨1,false,24,[.a8],.slice⟩:=by kernel_rfl
@[go_sem]theorem aqF:gF Tryz.prog 24=some ⟨⟨1,false,24,[.a8],.slice⟩,[],some ⟨5,true,72,[.bool false,.int .i64 0,.a8,.int .i64 0,.a8],.struct⟩,none⟩:=by kernel_rfl
@[go_sem]theorem Xdb:cC Tryz.prog 26=some ⟨1,false,24,[.a8],.slice⟩:=by kernel_rfl
@[go_sem]theorem aqG:gF Tryz.prog 26=some ⟨⟨1,false,24,[.a8],.slice⟩,[],some ⟨1,false,8,[.int .i64 0],(.int .i64)⟩,none⟩:=by kernel_rfl
@[go_sem]theorem Xdk:cC Tryz.prog 28=some ⟨4,true,64,[.a8,.a8,.int .i64 0,.int .i64 0],.struct⟩:=by kernel_rfl
@[go_sem]theorem aqH:gF Tryz.prog 28=some ⟨⟨4,true,64,[.a8,.a8,.int .i64 0,.int .i64 0],.struct⟩,[(0,some ⟨1,false,24,[.a8],.slice⟩),(1,some ⟨1,false,24,[.a8],.slice⟩),(2,some ⟨1,false,8,[.int .i64 0],(.int .i64)⟩),(3,some ⟨1,false,8,[.int .i64 0],(.int .i64)⟩)],none,none⟩:=by kernel_rfl
@[go_sem]theorem Xdf:cC Tryz.prog 29=some ⟨1,false,8,[.int .i64 0],(.int .i64)⟩:=by kernel_rfl
@[go_sem]theorem Xdg:cC Tryz.prog 36=some ⟨1,false,24,[.a8],.slice⟩:=by kernel_rfl
@[go_sem]theorem aqI:gF Tryz.prog 36=some ⟨⟨1,false,24,[.a8],.slice⟩,[],some ⟨1,false,24,[.a8],.slice⟩,none⟩:=by kernel_rfl
@[go_sem]theorem Xd3:cC Tryz.prog 56=some ⟨7,true,120,[.a8,.a8,.a8,.a8,.int .i64 0,.int .i64 0,.int .i64 0],.struct⟩:=by kernel_rfl
@[go_sem]theorem aqJ:gF Tryz.prog 56=some ⟨⟨7,true,120,[.a8,.a8,.a8,.a8,.int .i64 0,.int .i64 0,.int .i64 0],.struct⟩,[(0,some ⟨1,false,24,[.a8],.slice⟩),(1,some ⟨1,false,24,[.a8],.slice⟩),(2,some ⟨1,false,24,[.a8],.slice⟩),(3,some ⟨1,false,24,[.a8],.slice⟩),(4,some ⟨1,false,8,[.int .i64 0],(.int .i64)⟩),(5,some ⟨1,false,8,[.int .i64 0],(.int .i64)⟩),(6,some ⟨1,false,8,[.int .i64 0],(.int .i64)⟩)],none,none⟩:=by kernel_rfl
@[go_sem]theorem Xd7:cC Tryz.prog 57=some ⟨1,false,8,[.fU],.func⟩:=by kernel_rfl
@[go_sem]theorem aqK:gF Tryz.prog 58=some ⟨⟨1,false,24,[.a8],.slice⟩,[],some ⟨1,false,8,[.fU],.func⟩,none⟩:=by kernel_rfl
@[go_sem]theorem Xd9:cC Tryz.prog 68=some ⟨1,false,24,[.a8],.slice⟩:=by kernel_rfl
@[go_sem]theorem aqL:gF Tryz.prog 68=some ⟨⟨1,false,24,[.a8],.slice⟩,[],some ⟨2,true,32,[.int .i64 0,.a8],.struct⟩,none⟩:=by kernel_rfl
@[go_sem]theorem Xdd:cC Tryz.prog 70=some ⟨2,true,32,[.int .i64 0,.a8],.struct⟩:=by kernel_rfl
@[go_sem]theorem aqM:gF Tryz.prog 70=some ⟨⟨2,true,32,[.int .i64 0,.a8],.struct⟩,[(0,some ⟨1,false,8,[.int .i64 0],(.int .i64)⟩),(1,some ⟨1,false,24,[.a8],.slice⟩)],none,none⟩:=by kernel_rfl
@[go_sem]theorem Xd1:cC Tryz.prog 74=some ⟨5,true,72,[.bool false,.int .i64 0,.a8,.int .i64 0,.a8],.struct⟩:=by kernel_rfl
@[go_sem]theorem aqN:gF Tryz.prog 74=some ⟨⟨5,true,72,[.bool false,.int .i64 0,.a8,.int .i64 0,.a8],.struct⟩,[(0,some ⟨1,false,1,[.bool false],.bool⟩),(1,some ⟨2,true,32,[.int .i64 0,.a8],.struct⟩),(3,some ⟨2,true,32,[.int .i64 0,.a8],.struct⟩)],none,none⟩:=by kernel_rfl
@[go_sem]theorem Xcy:cC Tryz.prog 79=some ⟨4,true,40,[.str ⟨#[]⟩,.int .i64 0,.int .i64 0,.bool false],.struct⟩:=by kernel_rfl
@[go_sem]theorem aqO:gF Tryz.prog 79=some ⟨⟨4,true,40,[.str ⟨#[]⟩,.int .i64 0,.int .i64 0,.bool false],.struct⟩,[(0,some ⟨1,false,16,[.str ⟨#[]⟩],.str⟩),(1,some ⟨1,false,8,[.int .i64 0],(.int .i64)⟩),(2,some ⟨1,false,8,[.int .i64 0],(.int .i64)⟩),(3,some ⟨1,false,1,[.bool false],.bool⟩)],none,none⟩:=by kernel_rfl
@[go_sem]theorem Xdc:Aq Tryz.prog 79 [.str,(.int .i64),(.int .i64),.bool]=true:=by kernel_rfl
@[go_sem]theorem Xcz:cC Tryz.prog 85=some ⟨1,false,8,[.fU],.func⟩:=by kernel_rfl
@[go_sem]theorem Xd6:cC Tryz.prog 87=some ⟨1,false,8,[.gJ],.ptr⟩:=by kernel_rfl
@[go_sem]theorem Xdh:cC Tryz.prog 88=some ⟨1,false,24,[.a8],.slice⟩:=by kernel_rfl
@[go_sem]theorem aqP:gF Tryz.prog 88=some ⟨⟨1,false,24,[.a8],.slice⟩,[],some ⟨1,false,1,[.bool false],.bool⟩,none⟩:=by kernel_rfl
@[go_sem]theorem Xd8:cC Tryz.prog 90=some ⟨2,true,48,[.a8,.a8],.struct⟩:=by kernel_rfl
@[go_sem]theorem aqQ:gF Tryz.prog 90=some ⟨⟨2,true,48,[.a8,.a8],.struct⟩,[(0,some ⟨1,false,24,[.a8],.slice⟩),(1,some ⟨1,false,24,[.a8],.slice⟩)],none,none⟩:=by kernel_rfl
@[go_sem]theorem Xd0:cC Tryz.prog 92=some ⟨1,false,8,[.dj],.map⟩:=by kernel_rfl
@[go_sem]theorem aqR:gF Tryz.prog 92=some ⟨⟨1,false,8,[.dj],.map⟩,[],some ⟨2,true,32,[.int .i64 0,.a8],.struct⟩,some ⟨1,false,8,[.int .i64 0],(.int .i64)⟩⟩:=by kernel_rfl
@[go_sem]theorem Xde:cC Tryz.prog 93=some ⟨1,false,8,[.dj],.map⟩:=by kernel_rfl
@[go_sem]theorem aqS:gF Tryz.prog 93=some ⟨⟨1,false,8,[.dj],.map⟩,[],some ⟨2,true,32,[.int .i64 0,.a8],.struct⟩,some ⟨1,false,8,[.int .i64 0],(.int .i64)⟩⟩:=by kernel_rfl
@[go_sem]theorem Xch:cC Tryz.prog 123=some ⟨6,true,96,[.a8,.bool false,.int .i64 0,.a8,.int .i64 0,.a8],.struct⟩:=by kernel_rfl
@[go_sem]theorem Xdj:gF Tryz.prog 123=some ⟨⟨6,true,96,[.a8,.bool false,.int .i64 0,.a8,.int .i64 0,.a8],.struct⟩,[(0,some ⟨1,false,24,[.a8],.slice⟩),(1,some ⟨5,true,72,[.bool false,.int .i64 0,.a8,.int .i64 0,.a8],.struct⟩)],none,none⟩:=by kernel_rfl
@[go_sem]theorem Xcu:cC Tryz.prog 124=some ⟨1,false,8,[.fU],.func⟩:=by kernel_rfl
@[go_sem]theorem Xcm:cC Tryz.prog 128=some ⟨1,false,24,[.a8],.slice⟩:=by kernel_rfl
@[go_sem]theorem Xdr:gF Tryz.prog 128=some ⟨⟨1,false,24,[.a8],.slice⟩,[],some ⟨5,true,72,[.int .i64 0,.a8,.int .i64 0,.a8,.int .i64 0],.struct⟩,none⟩:=by kernel_rfl
@[go_sem]theorem Xcc:cC Tryz.prog 134=some ⟨1,false,8,[.dj],.map⟩:=by kernel_rfl
@[go_sem]theorem Xd2:gF Tryz.prog 134=some ⟨⟨1,false,8,[.dj],.map⟩,[],some ⟨1,false,8,[.int .i64 0],(.int .i64)⟩,some ⟨1,false,8,[.int .i64 0],(.int .i64)⟩⟩:=by kernel_rfl
@[go_sem]theorem Xcq:cC Tryz.prog 136=some ⟨1,false,8,[.fU],.func⟩:=by kernel_rfl
@[go_sem]theorem Xcb:cC Tryz.prog 138=some ⟨1,true,8,[.fU],.struct⟩:=by kernel_rfl
@[go_sem]theorem Xdp:gF Tryz.prog 138=some ⟨⟨1,true,8,[.fU],.struct⟩,[(0,some ⟨1,false,8,[.fU],.func⟩)],none,none⟩:=by kernel_rfl
@[go_sem]theorem Xcf:cC Tryz.prog 141=some ⟨1,false,24,[.a8],.slice⟩:=by kernel_rfl
@[go_sem]theorem Xdi:gF Tryz.prog 141=some ⟨⟨1,false,24,[.a8],.slice⟩,[],some ⟨3,true,40,[.int .i64 0,.int .i64 0,.a8],.struct⟩,none⟩:=by kernel_rfl
@[go_sem]theorem Xcr:cC Tryz.prog 153=some ⟨4,true,64,[.int .i64 0,.a8,.int .i64 0,.a8],(.array 2)⟩:=by kernel_rfl
@[go_sem]theorem Xdt:gF Tryz.prog 153=some ⟨⟨4,true,64,[.int .i64 0,.a8,.int .i64 0,.a8],(.array 2)⟩,[],some ⟨2,true,32,[.int .i64 0,.a8],.struct⟩,none⟩:=by kernel_rfl
@[go_sem]theorem Xd4:gF Tryz.prog 154=some ⟨⟨1,false,24,[.a8],.slice⟩,[],some ⟨4,true,64,[.int .i64 0,.a8,.int .i64 0,.a8],(.array 2)⟩,none⟩:=by kernel_rfl
@[go_sem]theorem Xcv:gF Tryz.prog 158=some ⟨⟨1,false,24,[.a8],.slice⟩,[],some ⟨1,false,8,[.fU],.func⟩,none⟩:=by kernel_rfl
@[go_sem]theorem Xck:cC Tryz.prog 159=some ⟨1,false,8,[.fU],.func⟩:=by kernel_rfl
@[go_sem]theorem Xce:cC Tryz.prog 161=some ⟨5,true,72,[.int .i64 0,.a8,.int .i64 0,.a8,.int .i64 0],.struct⟩:=by kernel_rfl
@[go_sem]theorem Xdo:gF Tryz.prog 161=some ⟨⟨5,true,72,[.int .i64 0,.a8,.int .i64 0,.a8,.int .i64 0],.struct⟩,[(0,some ⟨2,true,32,[.int .i64 0,.a8],.struct⟩),(2,some ⟨2,true,32,[.int .i64 0,.a8],.struct⟩),(4,some ⟨1,false,8,[.int .i64 0],(.int .i64)⟩)],none,none⟩:=by kernel_rfl
@[go_sem]theorem Xci:cC Tryz.prog 168=some ⟨5,true,72,[.int .i64 0,.bool false,.a8,.int .i64 0,.a8],.struct⟩:=by kernel_rfl
@[go_sem]theorem Xda:gF Tryz.prog 168=some ⟨⟨5,true,72,[.int .i64 0,.bool false,.a8,.int .i64 0,.a8],.struct⟩,[(0,some ⟨1,false,8,[.int .i64 0],(.int .i64)⟩),(1,some ⟨1,false,1,[.bool false],.bool⟩),(2,some ⟨1,false,24,[.a8],.slice⟩),(3,some ⟨2,true,32,[.int .i64 0,.a8],.struct⟩)],none,none⟩:=by kernel_rfl
@[go_sem]theorem Xcp:cC Tryz.prog 176=some ⟨3,true,40,[.int .i64 0,.int .i64 0,.a8],.struct⟩:=by kernel_rfl
@[go_sem]theorem Xdl:gF Tryz.prog 176=some ⟨⟨3,true,40,[.int .i64 0,.int .i64 0,.a8],.struct⟩,[(0,some ⟨1,false,8,[.int .i64 0],(.int .i64)⟩),(1,some ⟨2,true,32,[.int .i64 0,.a8],.struct⟩)],none,none⟩:=by kernel_rfl
@[go_sem]theorem Xdu:gF Tryz.prog 181=some ⟨⟨1,false,24,[.a8],.slice⟩,[],some ⟨1,false,24,[.a8],.slice⟩,none⟩:=by kernel_rfl
@[go_sem]theorem Xcn:cC Tryz.prog 186=some ⟨3,true,40,[.int .i64 0,.a8,.int .i64 0],.struct⟩:=by kernel_rfl
@[go_sem]theorem Xdn:gF Tryz.prog 186=some ⟨⟨3,true,40,[.int .i64 0,.a8,.int .i64 0],.struct⟩,[(0,some ⟨2,true,32,[.int .i64 0,.a8],.struct⟩),(2,some ⟨1,false,8,[.int .i64 0],(.int .i64)⟩)],none,none⟩:=by kernel_rfl
@[go_sem]theorem Xcd:cC Tryz.prog 187=some ⟨1,false,24,[.a8],.slice⟩:=by kernel_rfl
@[go_sem]theorem Xdq:gF Tryz.prog 187=some ⟨⟨1,false,24,[.a8],.slice⟩,[],some ⟨3,true,40,[.int .i64 0,.a8,.int .i64 0],.struct⟩,none⟩:=by kernel_rfl
@[go_sem]theorem Xcl:cC Tryz.prog 215=some ⟨1,false,8,[.fU],.func⟩:=by kernel_rfl
@[go_sem]theorem Xcs:cC Tryz.prog 221=some ⟨1,false,8,[.dj],.map⟩:=by kernel_rfl
@[go_sem]theorem Xcw:gF Tryz.prog 221=some ⟨⟨1,false,8,[.dj],.map⟩,[],some ⟨2,true,32,[.int .i64 0,.a8],.struct⟩,some ⟨1,false,8,[.int .i64 0],(.int .i64)⟩⟩:=by kernel_rfl
@[go_sem]theorem Xcg:cC Tryz.prog 244=some ⟨2,true,16,[.int .i64 0,.dj],.struct⟩:=by kernel_rfl
@[go_sem]theorem Xcx:gF Tryz.prog 244=some ⟨⟨2,true,16,[.int .i64 0,.dj],.struct⟩,[(0,some ⟨1,false,8,[.int .i64 0],(.int .i64)⟩),(1,some ⟨1,false,8,[.dj],.map⟩)],none,none⟩:=by kernel_rfl
@[go_sem]theorem Xd5:gF Tryz.prog 266=some ⟨⟨1,false,24,[.a8],.slice⟩,[],some ⟨1,false,24,[.a8],.slice⟩,none⟩:=by kernel_rfl
inductive Tm where
 |mk (head:Int) (args:List Tm)
def Tm.head:Tm->Int|.mk h _=>h
def Tm.args:Tm->List Tm|.mk _ l=>l
mutual
def Tm.aH:Tm->ah
 |.mk h ts=>.agg [.int .i64 h,.ps 2 (Tm.BA ts)]
def Tm.BA:List Tm->List ah
 |[]=>[]
 |t :: ts=>t.aH :: Tm.BA ts
end
theorem TG:∀ts,Tm.BA ts=ts.map Tm.aH
 |[]=>rfl
 |t :: ts=>by simp[Tm.BA,TG ts]
theorem cq (t:Tm):t.aH=.agg [.int .i64 t.head,.ps 2 (t.args.map Tm.aH)]:=by cases t;simp[Tm.aH,TG,Tm.head,Tm.args]
theorem dO (t:Tm):t.aH.cells=[.int .i64 t.head,.ps 2 (t.args.map Tm.aH)]:=by rw[cq];rfl
theorem yp (h:Int)(ts:List Tm):ah.agg [.int .i64 h,.ps 2 (ts.map Tm.aH)]=(Tm.mk h ts).aH:=by rw[cq];rfl
theorem wx {α:Type}{n:Nat}{f : α->ah}:∀ {l:List α},(∀x∈l,(f x).low n)->bG n (l.map f)
 |[],_=>trivial
 |a :: l,h=>⟨h a (by simp),wx λx hx=>h x (by simp[hx])⟩
mutual
theorem H_:∀t:Tm,t.aH.low 0
 |.mk h ts=>by simp only[Tm.aH,ah.low,bG,and_true,true_and];exact XY ts
theorem XY:∀ts:List Tm,bG 0 (Tm.BA ts)
 |[]=>trivial
 |t :: ts=>⟨H_ t,XY ts⟩
end
theorem cV {n:Nat}(t:Tm):t.aH.low n:=oJ (aj n) (H_ t)
theorem bC {n:Nat}(ts:List Tm):bG n (ts.map Tm.aH):=wx λx _=>cV x
theorem jT {α:Type}{f : α->ah}{l:List α}{i:Nat}(h:i<l.length):(l.map f).getD i .undef=f l[i]:=by simp[List.getD,h]
def ints (l:List Int):List ah:=l.map (.int .i64)
theorem ja (l:List Int):(ints l).length=l.length:=by simp[ints]
theorem cY {n:Nat}:∀l:List Int,bG n (ints l)
 |[]=>trivial
 |_ :: l=>⟨trivial,cY l⟩
theorem vu {l:List Int}{i:Nat}(h:i<l.length):(ints l).getD i .undef=.int .i64 l[i]:=by simp[ints,List.getD,h]
theorem wy:ints []=[]:=rfl
theorem OS (l:List Int)(n:Int):ints l++[.int .i64 n]=ints (l++[n]):=by simp[ints]
theorem dt {n:Int}(h : -9223372036854775808<=n/\n<=9223372036854775807):IntKind.i64.wrap n=n:=by rw[IntKind.wrap_i64];omega
def nj (n:Int):Prop:=-9223372036854775808<=n/\n<=9223372036854775807
mutual
def Tm.size:Tm->Nat
 |.mk _ ts=>1+Tm.bw ts
def Tm.bw:List Tm->Nat
 |[]=>0
 |t :: ts=>t.size+Tm.bw ts
end
mutual
def Tm.depth:Tm->Nat
 |.mk _ ts=>Tm.gH ts+1
def Tm.gH:List Tm->Nat
 |[]=>0
 |t :: ts=>max t.depth (Tm.gH ts)
end
theorem zC:∀(ts:List Tm) (i:Nat) (hi:i<ts.length),Tm.bw (ts.take (i+1))=Tm.bw (ts.take i)+Tm.size ts[i]
 |t :: ts,0,_=>by simp[Tm.bw]
 |t :: ts,i+1,hi=>by
  simp only[cW,Tm.bw,df];rw[zC ts i (by simpa using hi)];omega
theorem VU:∀(ts:List Tm) (i:Nat) (hi:i<ts.length),Tm.gH (ts.take (i+1))=max (Tm.gH (ts.take i)) (Tm.depth ts[i])
 |t :: ts,0,_=>by simp[Tm.gH]
 |t :: ts,i+1,hi=>by
  simp only[cW,Tm.gH,df];rw[VU ts i (by simpa using hi)];omega
theorem sn:∀(ts:List Tm) (i:Nat) (hi:i<ts.length),Tm.size ts[i]<=Tm.bw ts
 |t :: ts,0,_=>by simp only[d_,Tm.bw];omega
 |t :: ts,i+1,hi=>by
  have:=sn ts i (by simpa using hi);simp only[df,Tm.bw];omega
theorem yj:∀(ts:List Tm) (i:Nat),Tm.bw (ts.take i)<=Tm.bw ts
 |[],i=>by simp
 |t :: ts,0=>by simp[Tm.bw]
 |t :: ts,i+1=>by have:=yj ts i;simp only[cW,Tm.bw];omega
theorem Y7 (t:Tm): 1<=t.size:=by cases t;simp only[Tm.size];omega
theorem mH:∀ts:List Tm,ts.length<=Tm.bw ts
 |[]=>by simp[Tm.bw]
 |t :: ts=>by have:=mH ts;have:=Y7 t;simp only[aq,Tm.bw];omega
mutual
theorem Nl:∀t:Tm,t.depth<=t.size
 |.mk _ ts=>by have:=Ni ts;simp only[Tm.depth,Tm.size];omega
theorem Ni:∀ts:List Tm,Tm.gH ts<=Tm.bw ts
 |[]=>by simp[Tm.gH,Tm.bw]
 |t :: ts=>by have:=Nl t;have:=Ni ts;simp only[Tm.gH,Tm.bw];omega
end
theorem Tm.fF {p:Tm->Prop} (h:∀hd ts,(∀(i:Nat) (hi:i<ts.length),p ts[i])->p (.mk hd ts)):∀t,p t:=by
 have key:∀n (t:Tm),t.size=n->p t:=by
  intro n
  induction n using Nat.strongRecOn with
  | _ n ih =>
   intro t ht
   match t,ht with
   |.mk hd ts,ht =>
    refine h hd ts λi hi=>ih _ ?_ ts[i] rfl;have:=sn ts i hi;simp only[Tm.size]at ht;omega
 exact λt=>key _ t rfl
mutual
def Tm.uS:Tm->Int->Int
 |.mk _ ts,m=>Tm.pj ts 1 m
def Tm.pj:List Tm->Int->Int->Int
 |[],n,_=>n
 |t :: ts,n,m=>if n<=m then Tm.pj ts (n+t.uS (m-n)) m else n
end
mutual
theorem EK:∀(t:Tm) (m:Int),0<=m->1<=t.uS m/\t.uS m<=m+1
 |.mk _ ts,m,h=>by simp only[Tm.uS];exact NB ts 1 m (by omega) (by omega)
theorem NB:∀(ts:List Tm) (n m:Int),1<=n->n<=m+1->n<=Tm.pj ts n m/\Tm.pj ts n m<=m+1
 |[],n,m,h1,h2=>by simp only[Tm.pj];omega
 |t :: ts,n,m,h1,h2=>by
  simp only[Tm.pj];split
  ·have:=EK t (m-n) (by omega);have:=NB ts (n+t.uS (m-n)) m (by omega) (by omega);omega
  ·omega
end
mutual
theorem OQ:∀(t:Tm) (m:Int),0<=m->t.uS m<=m->t.uS m=t.size
 |.mk _ ts,m,h0,h=>by
  simp only[Tm.uS]at h ⊢;have:=WI ts 1 m (by omega) (by omega) h;simp only[Tm.size];omega
theorem WI:∀(ts:List Tm) (n m:Int),1<=n->n<=m+1->Tm.pj ts n m<=m->Tm.pj ts n m=n+Tm.bw ts
 |[],n,m,_,_,_=>by simp[Tm.pj,Tm.bw]
 |t :: ts,n,m,h1,h2,h=>by
  simp only[Tm.pj]at h ⊢;split at h
  ·rename_i hn;rw[if_pos hn];have hb:=EK t (m-n) (by omega);have v8:=NB ts (n+t.uS (m-n)) m (by omega) (by omega);have h3:=WI ts (n+t.uS (m-n)) m (by omega) (by omega) h;have h4:=OQ t (m-n) (by omega) (by omega);simp only[Tm.bw];omega
  ·omega
end
theorem Yeb (ts:List Tm)(n m:Int)(h:¬n<=m):Tm.pj ts n m=n:=by cases ts<;>simp[Tm.pj,h]
mutual
def Tm.good:Tm->Bool
 |.mk h ts=>!(h<0&&decide (0<ts.length)||h < -256||decide (1023<h)||decide (8<ts.length))&&Tm.fy ts
def Tm.fy:List Tm->Bool
 |[]=>true
 |t :: ts=>t.good&&Tm.fy ts
end
theorem KT:∀(ts:List Tm) (i:Nat) (hi:i<ts.length),Tm.fy ts=(Tm.fy (ts.take i)&&(ts[i].good&&Tm.fy (ts.drop (i+1))))
 |t :: ts,0,_=>by simp[Tm.fy]
 |t :: ts,i+1,hi=>by
  simp only[cW,Tm.fy,df,n5];rw[KT ts i (by simpa using hi)];simp[oD]
theorem Yd2 (ts:List Tm)(i:Nat)(hi:i<ts.length):Tm.fy (ts.take (i+1))=(Tm.fy (ts.take i)&&ts[i].good):=by
 have h:=KT (ts.take (i+1)) i (by simp;omega);rw[h,j7,ly (by omega),List.getElem_take,dY (by rw[bN];omega)];simp[Tm.fy]
def Tm.check (t:Tm):Int:=if 400<t.size then 2 else if 40<t.depth then 7 else if t.good then 0 else 1
def jK (o:List Int)(v:Int):List Int:=if v∈o then o else o++[v]
def da (o l:List Int):List Int:=l.foldl jK o
mutual
def Tm.vars:Tm->List Int
 |.mk h ts=>Tm.fW ts (if h<0 then [-1-h] else [])
def Tm.fW:List Tm->List Int->List Int
 |[],o=>o
 |t :: ts,o=>Tm.fW ts (da o t.vars)
end
theorem Zvn (o l:List Int)(i:Nat)(hi:i<l.length):da o (l.take (i+1))=jK (da o (l.take i)) l[i]:=by
 simp only[da,cx,ax hi,dx,pz,rR,List.foldl_nil]
theorem ZD (o:List Int)(v:Int):(jK o v).length<=o.length+1:=by unfold jK;split<;>simp
theorem NQ:∀(l o:List Int),(da o l).length<=o.length+l.length
 |[],o=>by simp[da]
 |v :: l,o=>by
  have h:da o (v :: l)=da (jK o v) l:=rfl;rw[h];have:=NQ l (jK o v);have:=ZD o v;simp only[aq];omega
theorem WU:∀(ts:List Tm) (i:Nat) (hi:i<ts.length) (o:List Int),Tm.fW (ts.take (i+1)) o=da (Tm.fW (ts.take i) o) ts[i].vars
 |t :: ts,0,_,o=>by simp[Tm.fW]
 |t :: ts,i+1,hi,o=>by
  simp only[cW,Tm.fW,df];exact WU ts i (by simpa using hi) _
mutual
theorem EU:∀t:Tm,t.vars.length<=t.size
 |.mk h ts=>by
  have:=Lh ts (if h<0 then [-1-h] else [])
  have h2:(if h<0 then [-1-h] else ([]:List Int)).length<=1:=by split<;>simp
  simp only[Tm.vars,Tm.size];omega
theorem Lh:∀(ts:List Tm) (o:List Int),(Tm.fW ts o).length<=o.length+Tm.bw ts
 |[],o=>by simp[Tm.fW,Tm.bw]
 |t :: ts,o=>by
  have h1:=Lh ts (da o t.vars);have h2:=NQ t.vars o;have h3:=EU t;simp only[Tm.fW,Tm.bw];omega
end
def eR (b:Nat)(sz:Nat):List ah->ah
 |[]=>.a8
 |x :: l=>.os b 0 (l.length+1) sz
def cX:List ah->Option bS
 |[]=>none
 |x :: l=>some (.row (x :: l) 0)
mutual
def Tm.fit:Tm->Prop
 |.mk h ts=>nj h/\Tm.fits ts
def Tm.fits:List Tm->Prop
 |[]=>True
 |t :: ts=>t.fit/\Tm.fits ts
end
theorem GV:∀ {ts:List Tm},Tm.fits ts->∀(i:Nat) (hi:i<ts.length),ts[i].fit
 |t :: ts,h,0,_=>h.1
 |t :: ts,h,i+1,hi=>GV h.2 i (by simpa using hi)
theorem DR (n:Int)(l:List Int):ints (n :: l)=.int .i64 n :: ints l:=rfl
theorem pU (b sz:Nat):eR b sz []=.a8:=rfl
theorem Cy (b sz:Nat)(x:ah)(l:List ah):eR b sz (x :: l)=.os b 0 (l.length+1) sz:=rfl
theorem pC:cX []=none:=rfl
theorem BR (x:ah)(l:List ah):cX (x :: l)=some (.row (x :: l) 0):=rfl
theorem um {b n:Nat}(h:b<n)(sz:Nat):∀l:List ah,(eR b sz l).low n
 |[]=>trivial
 |_ :: _=>h
theorem BQ {n:Nat}:∀l:List ah,bG n l->ke n (cX l)
 |[],_=>trivial
 |_ :: _,h=>h
theorem vY {b sz:Nat}{l:List ah}(h:l≠[]):eR b sz l=.os b 0 l.length sz:=by cases l;exact absurd rfl h;rfl
theorem vA {l:List ah}(h:l≠[]):cX l=some (.row l 0):=by cases l;exact absurd rfl h;rfl
theorem GX (b sz:Nat)(l:List ah)(x:ah):eR b sz (l++[x])=.os b 0 (l.length+1) sz:=by
 rw[vY (by simp)];simp
theorem GO (l:List ah)(x:ah):cX (l++[x])=some (.row (l++[x]) 0):=vA (by simp)
theorem yV (l:List Int)(n:Int):ints (l++[n])=ints l++[.int .i64 n]:=(OS l n).symm
theorem nI {F:Nat->Bool} {σ:av} {b sz:Nat} {l:List ah} (hF:F b=true) (h:bW σ b=cX l):pT F σ (.ps sz l) (eR b sz l)=True:=by
 cases l with
 |nil=>simp[eR,pT]
 |cons x l =>
  simp only[eR,Ve,h,cX,WZ,hF,dQ,aq];simp[bL]
theorem Zv {σ:av} {b:Nat} (h:bW σ b=none): σ.set b none = σ:=by
 apply bZ;intro c;by_cases e:b=c
 ·subst e;rw[qp];simp only[bW]at h;cases hc : σ[b]? with
  |none=>rfl
  |some x=>rw[hc]at h;simp at h;subst h;rfl
 ·rw[b_ e]
open Classical in
theorem qg {σ:av} {nm b sz bs:Nat} {ag:Bool} {z:List ah} {key:KA} {l:List ah} {x:ah} (h:bW σ b=cX l):fm σ nm ⟨sz,ag,bs,z,key⟩ (eR b sz l) [x]=if eE ⟨sz,ag,bs,z,key⟩ [x]/\l.length+1<=dc bs then some (.os nm 0 (l.length+1) sz,cJ (σ.set b none) nm (.row (l++[x]) 0)) else none:=by
 cases l with
 |nil =>
  have h0:bW σ b=none:=h;rw[Zv h0];by_cases c:eE ⟨sz,ag,bs,z,key⟩ [x]<;>simp[eR,Pb,c]
 |cons y l =>
  simp only[eR];rw[M9,h];simp only[cX,NH,aq,aF,dQ];by_cases c:eE ⟨sz,ag,bs,z,key⟩ [x]
  ·simp only[c,if_true,true_and,br,ae,aj,dF];rw[aO (by simp)]
  ·simp[c]
theorem qP {b sz:Nat}{l xs:List ah}(h:xs≠[]):eR b sz (l++xs)=.os b 0 (l.length+xs.length) sz:=by
 rw[vY (by simp[h])];simp
theorem qQ {l xs:List ah}(h:xs≠[]):cX (l++xs)=some (.row (l++xs) 0):=vA (by simp[h])
open Classical in
theorem PJ {σ:av} {nm b sz bs:Nat} {ag:Bool} {z:List ah} {key:KA} {l:List ah} {x y:ah} (h:bW σ b=cX l):fm σ nm ⟨sz,ag,bs,z,key⟩ (eR b sz l) [x,y]=if eE ⟨sz,ag,bs,z,key⟩ [x,y]/\l.length+2<=dc bs then some (.os nm 0 (l.length+2) sz,cJ (σ.set b none) nm (.row (l++[x,y]) 0)) else none:=by
 cases l with
 |nil =>
  have h0:bW σ b=none:=h;rw[Zv h0];by_cases c:eE ⟨sz,ag,bs,z,key⟩ [x,y]<;>simp[eR,Pb,c]
 |cons u l =>
  simp only[eR];rw[M9,h];simp only[cX,NH,aq,aF,dQ];by_cases c:eE ⟨sz,ag,bs,z,key⟩ [x,y]
  ·simp only[c,if_true,true_and,br,ae,aj,dF];rw[aO (by simp)]
  ·simp[c]
end Go.Proofs
namespace Go.Proofs
open Go Go.dq
attribute [local go_sem] Nat.reduceAdd Nat.reduceSub Nat.reduceMul Nat.reduceLeDiff Nat.reduceEqDiff Nat.reduceBEq
theorem mixed:Tryz.prog.follows .mixedOrders=true:=by rfl
theorem TU (a b:List Int) (ha:a.length<2 ^ 62):az Tryz.prog 46 [.ps 1 (ints a),.ps 1 (ints b)] (.bool (decide (a=b))):=by
 refine az.begin (rs:=[.tmp 4]) (m:=24) 1000 Tryz.func46 rfl rfl rfl (by decide) trivial ?_;simp only[go_sem,ja];refine⟨λdL=>?_,λheq=>?_⟩
 ·have:a≠b:=λe=>dL (by rw[e]);simp[this]
 have hlen:a.length=b.length:=by omega
 refine aC.cA (ι:={i:Nat // i<=a.length/\a.take i=b.take i}) 1000 (λi=>dV 26 [(0,.ps 1 (ints a)),(1,.ps 1 (ints b)),(5,.int .i64 i.1)]) (λ_=>[]) (λi=>a.length-i.1) ⟨0,by simp⟩ ?_ (λ_=>aj _) ?_
 ·simp only[go_sem,cY,bP]
 ·rintro ⟨i,hi,aD⟩;simp only[go_sem,ja];refine⟨λbx=>?_,λuF=>?_⟩
  ·have qi:i<a.length:=by omega
   have AW:i<b.length:=by omega
   refine aC.draw [] 0 0 mixed rfl rfl (ae _) ?_;simp only[go_sem,cM,ja,bh,vu qi,vu AW];refine⟨by omega,by omega,?_⟩;refine aC.g ?_;simp only[go_sem];refine⟨λdL=>?_,λheq=>?_⟩
   ·have:a≠b:=λe=>dL (by subst e;rfl);refine aC.g ?_;simp only[go_sem];simp[this]
   ·refine⟨⟨i+1,by omega,?_⟩,?_,by simp only;omega⟩
    ·rw[cx,cx,aD,ax qi,ax AW,heq]
    ·simp only[go_sem,cY];rw[dt (by omega)];rfl
  ·refine aC.g ?_;simp only[go_sem];have:i=a.length:=by omega
   subst this;rw[bQ,hlen,bQ]at aD;simp[aD]
theorem P9 (t:Tm):t.size<2 ^ 62->az Tryz.prog 152 [t.aH] (.int .i64 t.size):=by
 induction t using Tm.fF with
 |h h ts ih =>
 intro hs;simp only[Tm.size]at hs;have hlen:=mH ts;refine az.begin (rs:=[.tmp 2]) (m:=20) 1000 Tryz.func152 rfl rfl rfl (by decide) trivial ?_;simp only[go_sem,cq,Tm.head,Tm.args];refine aC.cA (ι:={i:Nat // i<=ts.length}) 1000 (λi=>dV 21 [(1,.ptr 0 0),(3,.int .i64 (1+Tm.bw (ts.take i.1):Nat)),(4,.int .i64 i.1)]) (λ_=>[some (.var [.int .i64 h,.ps 2 (ts.map Tm.aH)])]) (λi=>ts.length-i.1) ⟨0,by omega⟩ ?_ (λ_=>by simp) ?_
 ·simp only[go_sem,Tm.bw,bC,bP,bF];simp
 ·rintro⟨i,hi⟩;simp only[go_sem,ao];refine⟨λbx=>?_,λuF=>?_⟩
  ·have aL:i<ts.length:=by omega
   refine⟨by omega,?_⟩;simp only[go_sem,bh,jT aL,dO,ae];rw[<-cq];have eM:=sn ts i aL;refine ak.bm [] (ih i aL (by omega)) (bL _ _ _) (by simp[go_sem,cV]) ?_;simp only[bj,bA,bz,if_true];refine aC.g ?_;simp only[go_sem];refine⟨⟨i+1,aL⟩,?_,by simp only;omega⟩;simp only[go_sem,bC,bF];have h1:=zC ts i aL;have h2:=yj ts (i+1);rw[dt (by omega),dt (by omega),h1];simp;omega
  ·refine aC.g ?_;simp only[go_sem,Tm.size];have:i=ts.length:=by omega
   subst this;simp
theorem Yod (t:Tm):t.size<2 ^ 62->az Tryz.prog 153 [t.aH] (.int .i64 t.depth):=by
 induction t using Tm.fF with
 |h h ts ih =>
 intro hs;simp only[Tm.size]at hs;have hlen:=mH ts;refine az.begin (rs:=[.tmp 2]) (m:=21) 1000 Tryz.func153 rfl rfl rfl (by decide) trivial ?_;simp only[go_sem,cq,Tm.head,Tm.args];refine aC.cA (ι:={i:Nat // i<=ts.length}) 1000 (λi=>dV 22 [(1,.ptr 0 0),(3,.int .i64 (Tm.gH (ts.take i.1):Nat)),(4,.int .i64 i.1)]) (λ_=>[some (.var [.int .i64 h,.ps 2 (ts.map Tm.aH)])]) (λi=>ts.length-i.1) ⟨0,by omega⟩ ?_ (λ_=>by simp) ?_
 ·simp only[go_sem,Tm.gH,bC,bP,bF]
 ·rintro⟨i,hi⟩;simp only[go_sem,ao];refine⟨λbx=>?_,λuF=>?_⟩
  ·have aL:i<ts.length:=by omega
   refine⟨by omega,?_⟩;simp only[go_sem,bh,jT aL,dO,ae];rw[<-cq];have eM:=sn ts i aL;refine ak.bm [] (ih i aL (by omega)) (bL _ _ _) (by simp[go_sem,cV]) ?_;simp only[bj,bA,bz,if_true];refine aC.g ?_;simp only[go_sem];refine⟨⟨i+1,aL⟩,?_,by simp only;omega⟩;simp only[go_sem,bC,bF];have h1:=VU ts i aL;rw[dt (by omega),h1];refine⟨?_,rfl⟩;congr 1;split<;>omega
  ·refine aC.g ?_;simp only[go_sem,Tm.depth];have:i=ts.length:=by omega
   subst this;have:=Ni ts;rw[bQ,dt (by omega)];simp
theorem Nd (n:Int) (l:List Int) (hl:l.length<2 ^ 62):az Tryz.prog 20 [.int .i64 n,.ps 1 (ints l)] (.bool (decide (n∈l))):=by
 refine az.begin (rs:=[.tmp 4]) (m:=16) 1000 Tryz.func20 rfl rfl rfl (by decide) trivial ?_;simp only[go_sem];refine aC.cA (ι:={i:Nat // i<=l.length/\n ∉ l.take i}) 1000 (λi=>dV 18 [(0,.int .i64 n),(1,.ps 1 (ints l)),(5,.int .i64 i.1)]) (λ_=>[]) (λi=>l.length-i.1) ⟨0,by simp⟩ ?_ (λ_=>aj _) ?_
 ·simp only[go_sem,cY,bP]
 ·rintro ⟨i,hi,aD⟩;simp only[go_sem,ja];refine⟨λbx=>?_,λuF=>?_⟩
  ·have qi:i<l.length:=by omega
   simp only[go_sem,bh,vu qi];refine⟨by omega,λhe=>?_,λdL=>?_⟩
   ·refine aC.g ?_;simp only[go_sem];have:n∈l:=he ▸ ay qi;simp[this]
   ·refine⟨⟨i+1,by omega,?_⟩,?_,by simp only;omega⟩
    ·rw[cx,ax qi];simp only[dx,a_,aK,not_or];exact⟨aD,λe=>dL e.symm⟩
    ·simp only[go_sem,cY];rw[dt (by omega)];rfl
  ·refine aC.g ?_;simp only[go_sem];have:i=l.length:=by omega
   subst this;rw[bQ]at aD;simp[aD]
theorem Tl (t:Tm):∀m:Int,0<=m->m<2 ^ 62->az Tryz.prog 58 [t.aH,.int .i64 m] (.int .i64 (t.uS m)):=by
 induction t using Tm.fF with
 |h h ts ih =>
 intro m uX yy;refine az.begin (rs:=[.tmp 4]) (m:=29) 1000 Tryz.func58 rfl rfl rfl (by decide) trivial ?_;simp only[go_sem,cq,Tm.head,Tm.args];refine aC.cA (ι:={p:Nat×Int // p.1<=ts.length/\1<=p.2/\p.2<=m+1/\p.1<=p.2/\Tm.pj (ts.drop p.1) p.2 m=Tm.pj ts 1 m}) 1000 (λp=>dV 31 [(1,.int .i64 m),(2,.ptr 0 0),(5,.int .i64 p.1.2),(6,.int .i64 p.1.1)]) (λ_=>[some (.var [.int .i64 h,.ps 2 (ts.map Tm.aH)])]) (λp=>ts.length-p.1.1) ⟨(0,1),by simp;omega⟩ ?_ (λ_=>by simp) ?_
 ·simp only[go_sem,bC,bP,bF]
 ·rintro ⟨⟨i,n⟩,hi,h1,h2,h4,h3⟩;simp only at hi h1 h2 h3 h4;by_cases bx:(i:Int)<ts.length
  ·have aL:i<ts.length:=by omega
   by_cases hn:n<=m
   ·simp only[go_sem,ao,bx,hn];refine⟨by omega,?_⟩;simp only[go_sem,bh,jT aL,dO,ae];rw[<-cq,dt (by omega)];refine ak.bm [] (ih i aL (m-n) (by omega) (by omega)) (bL _ _ _) (by simp[go_sem,cV]) ?_;simp only[bj,bA,bz,if_true];refine aC.g ?_;simp only[go_sem];have hb:=EK ts[i] (m-n) (by omega);refine⟨⟨(i+1,n+ts[i].uS (m-n)),aL,by omega,by omega,by simp only;omega,?_⟩,?_,by simp only;omega⟩
    ·simp only
     rw[<-h3,ai aL,Tm.pj,if_pos hn]
    ·simp only[go_sem,bC,bF];rw[dt (by omega),dt (by omega)];simp
   ·simp only[go_sem,ao,bx,hn];refine aC.g ?_;simp only[go_sem];rw[Tm.uS,<-h3,Yeb _ _ _ hn]
  ·simp only[go_sem,ao,bx];refine aC.g ?_;simp only[go_sem];have:i=ts.length:=by omega
   subst this;rw[Tm.uS,<-h3,aJ,Tm.pj]
theorem Ysa (t:Tm):t.size<2 ^ 62->az Tryz.prog 154 [t.aH] (.bool t.good):=by
 induction t using Tm.fF with
 |h h ts ih =>
 intro hs;simp only[Tm.size]at hs;have hlen:=mH ts;refine az.begin (rs:=[.tmp 2]) (m:=42) 1000 Tryz.func154 rfl rfl rfl (by decide) trivial ?_;have rest:¬(h<0/\(0:Int)<ts.length)->¬h < -256->¬1023<h->¬(8:Int)<ts.length->Tm.good (.mk h ts)=Tm.fy ts:=λh1 h2 h3 h4=>by
  simp only[Tm.good];have e1:(decide (h<0)&&decide (0<ts.length))=false:=by simp only[dM,decide_eq_false_iff_not];omega
  have e2:decide (8<ts.length)=false:=by simp only[decide_eq_false_iff_not];omega
  simp[e1,e2,h2,h3]
 have bad:(h<0/\(0:Int)<ts.length)\/h < -256\/1023<h\/(8:Int)<ts.length->Tm.good (.mk h ts)=false:=λhb=>by
  simp only[Tm.good,dM,ij,cb,aG,decide_eq_true_eq];left;omega
 by_cases c1:h<0/\(0:Int)<ts.length
 ·simp only[go_sem,cq,Tm.head,Tm.args,ao,c1.1,c1.2,bad (.inl c1)]
 by_cases c2:h < -256
 ·have c3:h<0:=by omega
  have c4:¬(0:Int)<ts.length:=by omega
  simp only[go_sem,cq,Tm.head,Tm.args,ao,c2,c3,c4,bad (.inr (.inl c2))]
 by_cases c3 : 1023<h
 ·have c4:¬h<0:=by omega
  simp only[go_sem,cq,Tm.head,Tm.args,ao,c2,c3,c4,bad (.inr (.inr (.inl c3)))]
 by_cases c4:(8:Int)<ts.length
 ·have c5:¬h<0:=by omega
  simp only[go_sem,cq,Tm.head,Tm.args,ao,c2,c3,c4,c5,bad (.inr (.inr (.inr c4)))]
 have hg:=rest c1 c2 c3 c4;rw[hg];have c56:(h<0/\¬(0:Int)<ts.length)\/¬h<0:=by omega
 rcases c56 with⟨c5,c6⟩|c5
 case' inl=>simp only[go_sem,cq,Tm.head,Tm.args,ao,c2,c3,c4,c5,c6]
 case' inr=>simp only[go_sem,cq,Tm.head,Tm.args,ao,c2,c3,c4,c5]
 all_goals
  refine aC.cA (ι:={i:Nat // i<=ts.length/\Tm.fy (ts.take i)=true}) 1000 (λi=>dV 43 [(1,.ptr 0 0),(3,.int .i64 i.1)]) (λ_=>[some (.var [.int .i64 h,.ps 2 (ts.map Tm.aH)])]) (λi=>ts.length-i.1) ⟨0,by simp[Tm.fy]⟩ ?_ (λ_=>by simp) ?_
  ·simp only[go_sem,bC,bP,bF]
  ·rintro ⟨i,hi,zd⟩;simp only[go_sem,ao];refine⟨λbx=>?_,λuF=>?_⟩
   ·have aL:i<ts.length:=by omega
    refine⟨by omega,?_⟩;simp only[go_sem,bh,jT aL,dO,ae];rw[<-cq];have eM:=sn ts i aL;refine ak.bm [] (ih i aL (by omega)) (bL _ _ _) (by simp[go_sem,cV]) ?_;simp only[bj,bA,bz,if_true];refine aC.g ?_;have h1:=Yd2 ts i aL;cases tA:ts[i].good with
    |true =>
     simp only[go_sem];refine⟨⟨i+1,aL,by rw[h1,zd,tA];rfl⟩,?_,by simp only;omega⟩;simp only[go_sem,bC,bF];rw[dt (by omega)];simp
    |false =>
     simp only[go_sem];refine aC.g ?_;simp only[go_sem];have h2:=KT ts i aL;rw[h2,tA];simp
   ·refine aC.g ?_;simp only[go_sem];have:i=ts.length:=by omega
    subst this;rw[bQ]at zd;rw[zd]
theorem Y_ (t:Tm)(hs:t.size<2 ^ 62):az Tryz.prog 125 [t.aH] (.int .i64 t.check):=by
 have hd:=Nl t;refine az.begin (rs:=[.tmp 2]) (m:=11) 1000 Tryz.func125 rfl rfl rfl (by decide) trivial ?_;simp only[go_sem,cq,ae];rw[<-cq];refine ak.bm [] (P9 t hs) (bL _ _ _) (by simp[go_sem,cV]) ?_;simp only[bj,bA,bz,if_true];refine aC.g ?_;by_cases c1:(400:Int)<t.size
 ·simp only[go_sem,c1,Tm.check];rw[if_pos (by omega)]
 simp only[go_sem,c1,ae];rw[<-cq];refine ak.bm [] (Yod t hs) (bL _ _ _) (by simp[go_sem,cV]) ?_;simp only[bj,bA,bz,if_true];refine aC.g ?_;by_cases c2:(40:Int)<t.depth
 ·simp only[go_sem,c2,Tm.check];rw[if_neg (by omega),if_pos (by omega)]
 simp only[go_sem,c2,ae];rw[<-cq];refine ak.bm [] (Ysa t hs) (bL _ _ _) (by simp[go_sem,cV]) ?_;simp only[bj,bA,bz,if_true];refine aC.g ?_;cases c3:t.good <;>
 ·simp only[go_sem,Tm.check];rw[if_neg (by omega),if_neg (by omega),c3];rfl
theorem LU (t:Tm):t.fit->t.size<1000000000->az Tryz.prog 86 [t.aH] (.ps 1 (ints t.vars)):=by
 induction t using Tm.fF with
 |h h ts ih =>
 intro hf hs;simp only[Tm.size]at hs;obtain⟨Ea,C8⟩:=hf;have hlen:=mH ts;refine az.begin (rs:=[.tmp 2]) (m:=49) 1000 Tryz.func86 rfl rfl rfl (by decide) (by simp only[go_sem,cY]) ?_;simp only[go_sem,cq,Tm.head,Tm.args];obtain⟨o0,Hs⟩:∃o0,(if h<0 then [-1-h] else ([]:List Int))=o0:=⟨_,rfl⟩
 have JY:Tm.vars (.mk h ts)=Tm.fW ts o0:=by rw[Tm.vars,Hs]
 have ap5:o0.length<=1:=by rw[<-Hs];split<;>simp
 have B9:∀i,(Tm.fW (ts.take i) o0).length<=1+Tm.bw (ts.take i):=λi=>by
  have:=Lh (ts.take i) o0;omega
 have c1:h<0\/¬h<0:=by omega
 rcases c1 with c1|c1
 case' inl =>
  rw[if_pos c1]at Hs;have hw:IntKind.i64.wrap (-1-h) = -1-h:=dt (by unfold nj at Ea;omega);simp only[go_sem,c1,eE,aK,forall_eq,bF,ae,hw];refine aC.ep (ι:={i:Nat // i<=ts.length}) 1000 (λi=>dV 50 [(1,.ptr 0 0),(3,eR 1 1 (ints (Tm.fW (ts.take i.1) o0))),(4,.int .i64 i.1)]) (λi=>[some (.var [.int .i64 h,.ps 2 (ts.map Tm.aH)]),cX (ints (Tm.fW (ts.take i.1) o0))]) (λi=>ts.length-i.1) ⟨0,by omega⟩ [(1,2),(2,1)] ?_ (λ_=>by simp) ?_
 case' inr =>
  rw[if_neg c1]at Hs;simp only[go_sem,c1];refine aC.ep (ι:={i:Nat // i<=ts.length}) 1000 (λi=>dV 50 [(1,.ptr 0 0),(3,eR 1 1 (ints (Tm.fW (ts.take i.1) o0))),(4,.int .i64 i.1)]) (λi=>[some (.var [.int .i64 h,.ps 2 (ts.map Tm.aH)]),cX (ints (Tm.fW (ts.take i.1) o0))]) (λi=>ts.length-i.1) ⟨0,by omega⟩ [] ?_ (λ_=>by simp) ?_
 case inl.refine_1 =>
  subst Hs;refine eL rfl ?_;simp only[go_sem,Tm.fW,DR,wy,Cy,BR,bC,bT,bP,cR,eX]
 case inr.refine_1 =>
  subst Hs;refine eL rfl ?_;simp only[go_sem,Tm.fW,DR,wy,pU,pC,bC,bT,bP,cR]
 all_goals
  rintro⟨i,hi⟩;have hbound:=B9 i;generalize MC:Tm.fW (ts.take i) o0=o at hbound;simp only[go_sem,ao,MC];refine⟨λbx=>?_,λuF=>?_⟩
  ·have aL:i<ts.length:=by omega
   refine⟨by omega,?_⟩;simp only[go_sem,bh,jT aL,dO,ae];rw[<-cq];have eM:=sn ts i aL;have rD:=zC ts i aL;have gE:=yj ts (i+1);have Er:=EU ts[i];refine ak.bm [] (ih i aL (GV C8 i aL) (by omega)) (bL _ _ _) (by simp[go_sem,cV]) ?_;rw[eW];simp only[ite_self];refine aC.g ?_;generalize hl:ts[i].vars=l at *
   simp only[go_sem];refine aC.ep (ι:={j:Nat // j<=l.length}) 1000 (λj=>dV 50 [(1,.ptr 0 0),(3,eR 1 1 (ints (da o (l.take j.1)))),(4,.int .i64 i),(5,.ps 1 (ints l)),(6,.int .i64 j.1)]) (λj=>[some (.var [.int .i64 h,.ps 2 (ts.map Tm.aH)]),cX (ints (da o (l.take j.1)))]) (λj=>l.length-j.1) ⟨0,by omega⟩ [] ?_ (λ_=>by simp) ?_
   ·refine eL rfl ?_;have e0:da o []=o:=rfl;cases o with
    |nil=>simp only[go_sem,e0,wy,pU,pC,bC,cY,bT,bP,cR]
    |cons x o'=>simp only[go_sem,e0,DR,Cy,BR,bC,cY,bT,bP,cR,eX]
   ·rintro ⟨j,hj⟩;have ap6:=NQ (l.take j) o;have zU:(l.take j).length<=l.length:=by rw[bN];omega
    generalize hq:da o (l.take j)=q at *
    simp only[go_sem,ja];refine⟨λsC=>?_,λhjg=>?_⟩
    ·have nO:j<l.length:=by omega
     have fN:=Zvn o l j nO;rw[hq]at fN;simp only[go_sem,bh,vu nO,hq];refine⟨by omega,?_⟩;have fA:=Nd l[j] q (by omega);refine ak.bm [1] fA ?_ (by simp only[go_sem,cY]) ?_
     ·simp only[go_sem,k_,lb,nI]
     simp only[bj,bA,bz,if_true];refine aC.g ?_;unfold jK at fN;by_cases hm:l[j]∈q
     ·rw[if_pos hm]at fN;simp only[go_sem,hm];refine⟨⟨j+1,by omega⟩,[],eL rfl ?_,by simp only;omega⟩;simp only[fN];rw[dt (by omega)];have l1:=um (b:=1) (n:=2) (by omega) 1 (ints q);have l2:=BQ (n:=2) (ints q) (cY q);cases q with
      |nil=>simp only[go_sem,pU,pC,wy,bC,cY,bT,cR,fJ,fK]
      |cons x q'=>simp only[go_sem,Cy,BR,DR,bC,cY,bT,cR,eX,fJ,fK]
     ·rw[if_neg hm]at fN;simp only[go_sem,hm,ja,bh,vu nO,qg,eE,aK,forall_eq,bF,ae];refine⟨by omega,by omega,?_⟩;refine⟨⟨j+1,by omega⟩,[(1,3),(3,1)],eL rfl ?_,by simp only;omega⟩;simp only[fN];rw[dt (by omega)];simp only[go_sem,yV,GX,GO,ja,bC,cY,bT,cR,eX,fJ,fK];rw[OS,bT (cY _)];exact⟨rfl,cY _⟩
    ·have:j=l.length:=by omega
     subst this;rw[bQ]at hq;have sI:=WU ts i aL o0;rw[MC,hl,hq]at sI;refine aC.g ?_;simp only[go_sem];refine⟨⟨i+1,by omega⟩,[],eL rfl ?_,by simp only;omega⟩;simp only[sI];rw[dt (by omega)];cases q with
     |nil=>simp only[go_sem,pU,pC,wy,bC,cY,bT,cR,fJ,fK]
     |cons x q'=>simp only[go_sem,Cy,BR,DR,bC,cY,bT,cR,eX,fJ,fK]
  ·refine aC.g ?_;have:i=ts.length:=by omega
   subst this;rw[bQ]at MC;simp only[go_sem,JY,MC,nI]
end Go.Proofs
namespace Go.Proofs
open Go Go.dq
structure Sy where
 name:ByteArray
 arity:Int
 weight:Int
 cy:Bool
def Sy.aH (s:Sy):ah:=.agg [.str s.name,.int .i64 s.arity,.int .i64 s.weight,.bool s.cy]
theorem sw (s:Sy):s.aH.cells=[.str s.name,.int .i64 s.arity,.int .i64 s.weight,.bool s.cy]:=rfl
theorem Xb3 (s:Sy):s.aH=.agg [.str s.name,.int .i64 s.arity,.int .i64 s.weight,.bool s.cy]:=rfl
def syms (g:List Sy):List ah:=g.map Sy.aH
theorem na (g:List Sy):(syms g).length=g.length:=by simp[syms]
theorem cS {n:Nat}(g:List Sy):bG n (syms g):=wx λ_ _=>⟨trivial,trivial,trivial,trivial,trivial⟩
theorem sv {g:List Sy}{i:Nat}(h:i<g.length):(syms g).getD i .undef=g[i].aH:=jT h
structure Li where
 neg:Bool
 l:Tm
 r:Tm
def Li.cs (c:Li):List ah:=[.bool c.neg,.int .i64 c.l.head,.ps 2 (c.l.args.map Tm.aH),.int .i64 c.r.head,.ps 2 (c.r.args.map Tm.aH)]
def Li.aH (c:Li):ah:=.agg c.cs
theorem gf (c:Li):c.aH.cells=[.bool c.neg,.int .i64 c.l.head,.ps 2 (c.l.args.map Tm.aH),.int .i64 c.r.head,.ps 2 (c.r.args.map Tm.aH)]:=rfl
def lits (c:List Li):List ah:=c.map Li.aH
theorem dA (c:List Li):(lits c).length=c.length:=by simp[lits]
theorem jU {n:Nat}(c:Li):c.aH.low n:=⟨trivial,trivial,bC _,trivial,bC _,trivial⟩
theorem bI {n:Nat}(c:List Li):bG n (lits c):=wx λx _=>jU x
theorem qs {c:List Li}{i:Nat}(h:i<c.length):(lits c).getD i .undef=c[i].aH:=jT h
structure Wo where
 size:Int
 rows:List (List Int)
def cH (c:List Li):List Tm:=c.flatMap λl=>[l.l,l.r]
theorem Wt (c:List Li)(i:Nat)(h:i<c.length):cH (c.take (i+1))=cH (c.take i)++[c[i].l,c[i].r]:=by
 simp only[cH,cx,ax h,dx,List.flatMap_append,List.flatMap_cons,qo,bf]
theorem EM (c:List Li):(cH c).length=2*c.length:=by
 induction c with
 |nil=>rfl
 |cons a c ih=>simp[cH]at ih ⊢;omega
def mN (g:List Sy):Bool:=decide (g.length<=300)&&g.all λs=>decide (s.name.size<=100)
def pZ:List Tm->Int->Int
 |[],n=>n
 |t :: ts,n=>if n<=500 then pZ ts (n+t.uS 500) else n
def jG (c:List Li):Bool:=decide (c.length<=40)&&decide (pZ (cH c) 0<=500)
theorem WW:∀(ts:List Tm) (n:Int),0<=n->n<=1001->0<=pZ ts n/\(pZ ts n<=500->pZ ts n=n+Tm.bw ts)
 |[],n,h,_=>⟨by simp[pZ,h],λ_=>by simp[pZ,Tm.bw]⟩
 |t :: ts,n,h,h2=>by
  simp only[pZ];split
  ·rename_i hn;have hb:=EK t 500 (by omega);obtain⟨h3,h4⟩:=WW ts (n+t.uS 500) (by omega) (by omega);refine⟨h3,λh5=>?_⟩;have h6:=h4 h5;have h7:=OQ t 500 (by omega) (by omega);simp only[Tm.bw];omega
  ·rename_i hn;exact⟨h,λh5=>absurd h5 hn⟩
theorem Gr:∀a b:List Tm,Tm.bw (a++b)=Tm.bw a+Tm.bw b
 |[],b=>by simp[Tm.bw]
 |t :: a,b=>by simp only[bq,Tm.bw,Gr a b];omega
def eY (c:List Li):List Int:=Tm.fW (cH c) []
end Go.Proofs
namespace Go.Proofs
open Go Go.dq
attribute [local go_sem] Nat.reduceAdd Nat.reduceSub Nat.reduceMul Nat.reduceLeDiff Nat.reduceEqDiff Nat.reduceBEq
theorem Ycj (g:List Sy):az Tryz.prog 24 [.ps 4 (syms g)] (.bool (mN g)):=by
 refine az.begin (rs:=[.tmp 2]) (m:=24) 1000 Tryz.func24 rfl rfl rfl (by decide) trivial ?_;simp only[go_sem];by_cases hg:(g.length:Int)<=300
 ·refine aC.cA (ι:={i:Nat // i<=g.length/\(g.take i).all (λs=>decide (s.name.size<=100))=true}) 1000 (λi=>dV 25 [(0,.ps 4 (syms g)),(3,.int .i64 i.1)]) (λ_=>[]) (λi=>g.length-i.1) ⟨0,by simp⟩ ?_ (λ_=>aj _) ?_
  ·simp only[go_sem,cS,bP]
  ·rintro ⟨i,hi,aD⟩;by_cases bx:(i:Int)<g.length
   ·have aL:i<g.length:=by omega
    simp only[go_sem,na,bx,hg,bh,sv aL,sw];refine⟨by omega,λqy=>?_,λjB=>?_⟩
    ·refine aC.g ?_;simp only[go_sem];have h1:g.all (λs=>decide (s.name.size<=100))=false:=by
      rw[List.all_eq_false];exact⟨g[i],ay aL,by simp;omega⟩
     simp[mN,h1]
    ·refine⟨⟨i+1,aL,?_⟩,?_,by simp only;omega⟩
     ·rw[cx,List.all_append,aD,ax aL];simp;omega
     ·simp only[go_sem,cS];rw[dt (by omega)];rfl
   ·simp only[go_sem,na,bx];refine aC.g ?_;simp only[go_sem,na];have:i=g.length:=by omega
    subst this;rw[bQ]at aD;simp only[mN,aD,m9];congr 1;simp;omega
 ·refine aC.cA (ι:=Unit) 1000 (λ_=>dV 25 [(0,.ps 4 (syms g)),(3,.int .i64 0)]) (λ_=>[]) (λ_=>0) () ?_ (λ_=>aj _) ?_
  ·simp only[go_sem,cS]
  ·rintro⟨⟩;have bx:(0:Int)<g.length:=by omega
   simp only[go_sem,na,bx,hg];refine aC.g ?_;simp only[go_sem,na,hg];have:¬g.length<=300:=by omega
   simp[mN,this]
theorem Yk3 (ts:List Tm) (hl:ts.length<2 ^ 62):az Tryz.prog 93 [.ps 2 (ts.map Tm.aH)] (.bool (decide (pZ ts 0<=500))):=by
 refine az.begin (rs:=[.tmp 2]) (m:=23) 1000 Tryz.func93 rfl rfl rfl (by decide) trivial ?_;simp only[go_sem];refine aC.cA (ι:={p:Nat×Int // p.1<=ts.length/\0<=p.2/\p.2<=1001/\pZ (ts.drop p.1) p.2=pZ ts 0}) 1000 (λp=>dV 24 [(0,.ps 2 (ts.map Tm.aH)),(3,.int .i64 p.1.2),(4,.int .i64 p.1.1)]) (λ_=>[]) (λp=>ts.length-p.1.1) ⟨(0,0),by simp⟩ ?_ (λ_=>aj _) ?_
 ·simp only[go_sem,bC,bP]
 ·rintro ⟨⟨i,n⟩,hi,h1,h2,h3⟩;simp only at hi h1 h2 h3;by_cases bx:(i:Int)<ts.length
  ·have aL:i<ts.length:=by omega
   by_cases hn:n<=500
   ·simp only[go_sem,ao,bx,hn,bh,jT aL,dO,ae];refine⟨by omega,?_⟩;rw[<-cq];refine ak.bm [] (Tl ts[i] 500 (by omega) (by omega)) (bL _ _ _) (by simp[go_sem,cV]) ?_;simp only[bj,bA,bz,if_true];refine aC.g ?_;simp only[go_sem];have hb:=EK ts[i] 500 (by omega);refine⟨⟨(i+1,n+ts[i].uS 500),aL,by simp only;omega,by simp only;omega,?_⟩,?_,by simp only;omega⟩
    ·simp only
     rw[<-h3,ai aL,pZ,if_pos hn]
    ·simp only[go_sem,bC];rw[dt (by omega),dt (by omega)];simp
   ·simp only[go_sem,ao,bx,hn];refine aC.g ?_;simp only[go_sem,hn];have:pZ (ts.drop i) n=n:=by cases ts.drop i<;>simp[pZ,hn]
    simp[<-h3,this,hn]
  ·simp only[go_sem,ao,bx];refine aC.g ?_;simp only[go_sem];have:i=ts.length:=by omega
   subst this;rw[<-h3,aJ,pZ]
theorem HV (c:List Li) (hc:c.length<=2600000000000):az Tryz.prog 57 [.ps 5 (lits c)] (.ps 2 ((cH c).map Tm.aH)):=by
 refine az.begin (rs:=[.tmp 2]) (m:=24) 1000 Tryz.func57 rfl rfl rfl (by decide) (bC _) ?_;simp only[go_sem];refine aC.ep (ι:={i:Nat // i<=c.length}) 1000 (λi=>dV 25 [(0,.ps 5 (lits c)),(3,eR 0 2 ((cH (c.take i.1)).map Tm.aH)),(4,.int .i64 i.1)]) (λi=>[cX ((cH (c.take i.1)).map Tm.aH)]) (λi=>c.length-i.1) ⟨0,by omega⟩ [] ?_ (λ_=>by simp) ?_
 ·refine eL rfl ?_;simp only[go_sem,cH,qo,pU,pC,bI,bT,bP]
 ·rintro ⟨i,hi⟩;have Rw:=EM (c.take i);have nP:(c.take i).length<=c.length:=by rw[bN];omega
  have fN:=λh=>Wt c i h;generalize hq:cH (c.take i)=q at *
  simp only[go_sem,dA,hq];refine⟨λbx=>?_,λuF=>?_⟩
  ·have aL:i<c.length:=by omega
   refine aC.draw [⟨none,[],[1]⟩,.no,.no,.no,.no,.no,.no,.no,.no,.no,.no,⟨some 1,[1],[]⟩,⟨some 2,[0,2],[]⟩] 1 3 mixed rfl rfl (by decide) ?_;simp only[go_sem,cM,dA,bh,qs aL,gf,ae,PJ,eE,aU,dU,forall_eq_or_imp,forall_eq,cR,ao];refine⟨by omega,by omega,by omega,?_⟩;refine aC.g ?_;simp only[go_sem];refine⟨⟨i+1,aL⟩,[(0,2),(2,0)],eL rfl ?_,by simp only;omega⟩;simp only[fN aL];rw[dt (by omega)];have e1:(q++[c[i].l,c[i].r]).map Tm.aH=q.map Tm.aH++[.agg [.int .i64 c[i].l.head,.ps 2 (c[i].l.args.map Tm.aH)],.agg [.int .i64 c[i].r.head,.ps 2 (c[i].r.args.map Tm.aH)]]:=by
    rw[cf,aI,aI,aR,cq c[i].l,cq c[i].r]
   have lw:bG 0 ((q++[c[i].l,c[i].r]).map Tm.aH):=bC _;rw[e1]at lw ⊢;rw[qP (by simp),qQ (by simp)];simp only[go_sem,bI,bT,bT lw,ao,iD (aj 1) lw,fJ,fK,bF]
  ·refine aC.g ?_;have:i=c.length:=by omega
   subst this;rw[bQ]at hq;simp only[go_sem,hq,nI]
theorem WT (c:List Li):az Tryz.prog 56 [.ps 5 (lits c)] (.bool (jG c)):=by
 refine az.begin (rs:=[.tmp 2]) (m:=10) 1000 Tryz.func56 rfl rfl rfl (by decide) trivial ?_;by_cases h:(c.length:Int)<=40
 ·simp only[go_sem,dA,h];refine ak.bm [] (HV c (by omega)) (bL _ _ _) (by simp[go_sem,bI]) ?_;rw[eW];simp only[ite_self];refine aC.g ?_;simp only[go_sem];have hl:=EM c;refine ak.bm [] (Yk3 (cH c) (by omega)) (bL _ _ _) (by simp[go_sem,bC]) ?_;simp only[bj,bA,bz,if_true];refine aC.g ?_;have:c.length<=40:=by omega
  simp only[go_sem,jG,this]
 ·simp only[go_sem,dA,h];have:¬c.length<=40:=by omega
  simp[jG,this]
theorem Yk5 (ts:List Tm)(hf:Tm.fits ts)(hs:Tm.bw ts<999999999):az Tryz.prog 50 [.ps 2 (ts.map Tm.aH)] (.ps 1 (ints (Tm.fW ts []))):=by
 refine az.begin (rs:=[.tmp 2]) (m:=7) 1000 Tryz.func50 rfl rfl rfl (by decide) (cY _) ?_;simp only[go_sem,ae];rw[yp];refine ak.bm [] (LU (Tm.mk 0 ts) ⟨by unfold nj;omega,hf⟩ (by simp only[Tm.size];omega)) (bL _ _ _) (by simp[go_sem,cV]) ?_;rw[eW];simp only[ite_self];refine aC.g ?_;simp only[go_sem,Tm.vars,kY]
theorem Yjz (c:List Li)(hc:c.length<1000000)(hf:Tm.fits (cH c))(hs:Tm.bw (cH c)<999999999):az Tryz.prog 119 [.ps 5 (lits c)] (.ps 1 (ints (eY c))):=by
 refine az.begin (rs:=[.tmp 2]) (m:=5) 1000 Tryz.func119 rfl rfl rfl (by decide) (cY _) ?_;simp only[go_sem];refine ak.bm [] (HV c (by omega)) (bL _ _ _) (by simp[go_sem,bI]) ?_;rw[eW];simp only[ite_self];refine aC.g ?_;simp only[go_sem];refine ak.bm [] (Yk5 (cH c) hf hs) (bL _ _ _) (by simp[go_sem,bC]) ?_;rw[eW];simp only[ite_self];refine aC.g ?_;simp only[go_sem,eY]
end Go.Proofs
namespace Go.Proofs
open Go Go.dq
theorem DO (s:ByteArray):(s.toList==ByteArray.toList { data:=#[] })=decide ((s.size:Int)<1):=by
 by_cases h:(s.size:Int)<1
 ·have e:s = { data:=#[] }:=by
   obtain⟨d⟩:=s;have:d.size=0:=by have:d.size=(ByteArray.mk d).size:=rfl;omega
   rw[Array.size_eq_zero_iff.1 this]
  rw[decide_eq_true h,e];exact beq_self_eq_true _
 ·rw [decide_eq_false h];cases c:(s.toList==ByteArray.toList { data:=#[] }) with
  |false=>rfl
  |true =>
   rw[YM c]at h;exact absurd (by decide) h
def Sy.right (x:Sy):Bool:=!(decide ((x.name.size:Int)<1)||decide (64<(x.name.size:Int))||decide (x.arity<0)||decide (8<x.arity)||decide (x.weight<1)||decide (1000<x.weight))
def Sy.wF:Sy:=⟨⟨#[]⟩,0,0,false⟩
def uh:ByteArray:=⟨#[36,116,114,117,101]⟩
def fresh (g:List Sy)(i:Nat):Bool:=(g.take i).all λs=>!(s.name.toList==(g.getD i Sy.wF).name.toList)
def kN (g:List Sy)(i:Nat):Bool:=(g.getD i Sy.wF).right&&fresh g i
def isTrue (x:Sy):Bool:=x.name.toList==uh.toList&&(x.arity==0&&(x.weight==1&&x.cy))
def fH (g:List Sy):Bool:=!(decide ((g.length:Int)<1)||decide (256<(g.length:Int)))&&(List.range g.length).all (kN g)&&isTrue (g.getD 0 Sy.wF)
theorem CF {g:List Sy}{i:Nat}(h:i<g.length):g.getD i Sy.wF=g[i]:=by simp[List.getD,h]
theorem Vi (p:Nat->Bool)(n:Nat):(List.range (n+1)).all p=((List.range n).all p&&p n):=by
 rw[List.range_succ,List.all_append];simp
theorem Vo {p:Nat->Bool}{n i:Nat}(hi:i<n)(h:p i=false):(List.range n).all p=false:=by
 rw[List.all_eq_false];exact⟨i,by simpa using hi,by simp[h]⟩
theorem zK {x:Sy}(h:(x.name.size:Int)<1\/64<(x.name.size:Int)\/x.arity<0\/8<x.arity\/x.weight<1\/1000<x.weight):x.right=false:=by
 simp only[Sy.right,ij,cb,decide_eq_true_eq];omega
theorem SV {x:Sy}(h:¬(x.name.size:Int)<1/\¬64<(x.name.size:Int)/\¬x.arity<0/\¬8<x.arity/\¬x.weight<1/\¬1000<x.weight):x.right=true:=by
 simp only[Sy.right,bX,cZ,decide_eq_false_iff_not];omega
def lN (g:List Sy)(h:Int):Sy:=g.getD h.toNat Sy.wF
mutual
def Tm.known (g:List Sy):Tm->Bool
 |.mk h ts=>decide (h<0)||(!(decide ((g.length:Int)<=h))&&decide ((ts.length:Int)=(lN g h).arity)&&Tm.e8 g ts)
def Tm.e8 (g:List Sy):List Tm->Bool
 |[]=>true
 |t :: ts=>t.known g&&Tm.e8 g ts
end
def Tm.cy (g:List Sy)(t:Tm):Bool:=decide (0<=t.head)&&decide (t.head<(g.length:Int))&&(lN g t.head).cy
mutual
def Tm.g_ (g:List Sy):Tm->Bool
 |.mk _ ts=>Tm.fp g ts
def Tm.fp (g:List Sy):List Tm->Bool
 |[]=>true
 |t :: ts=>(!t.cy g&&t.g_ g)&&Tm.fp g ts
end
def Tm.term (g:List Sy)(t:Tm):Int:=if fH g=false then 1 else if t.check≠0 then t.check else if t.known g=false then 1 else if t.g_ g=false then 10 else 0
theorem Nz (g:List Sy):∀(ts:List Tm) (i:Nat) (hi:i<ts.length),Tm.e8 g ts=(Tm.e8 g (ts.take i)&&(ts[i].known g&&Tm.e8 g (ts.drop (i+1))))
 |t :: ts,0,_=>by simp[Tm.e8]
 |t :: ts,i+1,hi=>by
  simp only[cW,Tm.e8,df,n5];rw[Nz g ts i (by simpa using hi)];simp[oD]
theorem Zwp (g:List Sy)(ts:List Tm)(i:Nat)(hi:i<ts.length):Tm.e8 g (ts.take (i+1))=(Tm.e8 g (ts.take i)&&ts[i].known g):=by
 have h:=Nz g (ts.take (i+1)) i (by simp;omega);rw[h,j7,ly (by omega),List.getElem_take,dY (by rw[bN];omega)];simp[Tm.e8]
theorem Nt (g:List Sy):∀(ts:List Tm) (i:Nat) (hi:i<ts.length),Tm.fp g ts=(Tm.fp g (ts.take i)&&((!ts[i].cy g&&ts[i].g_ g)&&Tm.fp g (ts.drop (i+1))))
 |t :: ts,0,_=>by simp[Tm.fp]
 |t :: ts,i+1,hi=>by
  simp only[cW,Tm.fp,df,n5];rw[Nt g ts i (by simpa using hi)];simp[oD]
theorem Zuj (g:List Sy)(ts:List Tm)(i:Nat)(hi:i<ts.length):Tm.fp g (ts.take (i+1))=(Tm.fp g (ts.take i)&&(!ts[i].cy g&&ts[i].g_ g)):=by
 have h:=Nt g (ts.take (i+1)) i (by simp;omega);rw[h,j7,ly (by omega),List.getElem_take,dY (by rw[bN];omega)];simp[Tm.fp]
def Li.check (g:List Sy)(l:Li):Int:=if l.l.term g≠0 then l.l.term g else if l.r.term g≠0 then l.r.term g else
 if (l.l.cy g&&decide (l.r.head≠0))||(!l.l.cy g&&l.r.cy g) then 10 else 0
def dH (g:List Sy):List Li->Int
 |[]=>0
 |l :: c=>if l.check g≠0 then l.check g else dH g c
def aW (g:List Sy)(c:List Li):Int:=if fH g=false then 1 else if 32<(c.length:Int) then 2 else dH g c
theorem Vk (g:List Sy)(c:List Li)(i:Nat)(h:i<c.length):dH g (c.drop i)=if c[i].check g≠0 then c[i].check g else dH g (c.drop (i+1)):=by
 rw[ai h,dH]
end Go.Proofs
namespace Go.Proofs
open Go Go.dq
attribute [local go_sem] Nat.reduceAdd Nat.reduceSub Nat.reduceMul Nat.reduceLeDiff Nat.reduceEqDiff Nat.reduceBEq
theorem Y4 (g:List Sy):az Tryz.prog 47 [.ps 4 (syms g)] (.bool (fH g)):=by
 refine az.begin (rs:=[.tmp 2]) (m:=71) 1000 Tryz.func47 rfl rfl rfl (by decide) trivial ?_;by_cases c1:(g.length:Int)<1
 ·simp only[go_sem,na,c1,fH]
 by_cases c2 : 256<(g.length:Int)
 ·simp only[go_sem,na,c1,c2,fH]
 simp only[go_sem,na,c1,c2];have bad:∀i,i<g.length->kN g i=false->fH g=false:=λi hi hb=>by
  have:=Vo (p:=kN g) hi hb;simp[fH,this]
 refine aC.ep (ι:={i:Nat // i<=g.length/\(List.range i).all (kN g)=true}) 1000 (λi=>dV 72 [(0,.ps 4 (syms g)),(3,.int .i64 i.1)]) (λ_=>[]) (λi=>g.length-i.1) ⟨0,by simp⟩ [] ?_ (λ_=>aj _) ?_
 ·refine eL rfl ?_;simp only[go_sem,cS,bT,bP]
 ·rintro ⟨i,hi,aD⟩;by_cases bx:(i:Int)<g.length
  ·have aL:i<g.length:=by omega
   have oA:=CF aL;generalize hx:g[i]=x at oA;by_cases d1:(x.name.size:Int)<1
   ·have hb:kN g i=false:=by simp only[kN,oA,zK (.inl d1),bU]
    simp only[go_sem,na,bx,bh,sv aL,hx,sw,ae,d1];refine⟨by omega,?_⟩;refine aC.g ?_;simp only[go_sem,bad i aL hb]
   by_cases d2 : 64<(x.name.size:Int)
   ·have hb:kN g i=false:=by simp only[kN,oA,zK (.inr (.inl d2)),bU]
    simp only[go_sem,na,bx,bh,sv aL,hx,sw,ae,d1,d2];refine⟨by omega,?_⟩;refine aC.g ?_;simp only[go_sem,bad i aL hb]
   by_cases d3:x.arity<0
   ·have hb:kN g i=false:=by simp only[kN,oA,zK (.inr (.inr (.inl d3))),bU]
    simp only[go_sem,na,bx,bh,sv aL,hx,sw,ae,d1,d2,d3];refine⟨by omega,?_⟩;refine aC.g ?_;simp only[go_sem,bad i aL hb]
   by_cases d4 : 8<x.arity
   ·have hb:kN g i=false:=by simp only[kN,oA,zK (.inr (.inr (.inr (.inl d4)))),bU]
    simp only[go_sem,na,bx,bh,sv aL,hx,sw,ae,d1,d2,d3,d4];refine⟨by omega,?_⟩;refine aC.g ?_;simp only[go_sem,bad i aL hb]
   by_cases d5:x.weight<1
   ·have hb:kN g i=false:=by simp only[kN,oA,zK (.inr (.inr (.inr (.inr (.inl d5))))),bU]
    simp only[go_sem,na,bx,bh,sv aL,hx,sw,ae,d1,d2,d3,d4,d5];refine⟨by omega,?_⟩;refine aC.g ?_;simp only[go_sem,bad i aL hb]
   by_cases d6 : 1000<x.weight
   ·have hb:kN g i=false:=by simp only[kN,oA,zK (.inr (.inr (.inr (.inr (.inr (d6)))))),bU]
    simp only[go_sem,na,bx,bh,sv aL,hx,sw,ae,d1,d2,d3,d4,d5,d6];refine⟨by omega,?_⟩;refine aC.g ?_;simp only[go_sem,bad i aL hb]
   have Ce:=SV ⟨d1,d2,d3,d4,d5,d6⟩;simp only[go_sem,na,bx,bh,sv aL,hx,sw,ae,d1,d2,d3,d4,d5,d6];refine⟨by omega,?_⟩;refine aC.ep (ι:={j:Nat // j<=i/\(g.take j).all (λs=>!(s.name.toList==x.name.toList))=true}) 1000 (λj=>dV 72 [(0,.ps 4 (syms g)),(3,.int .i64 i),(4,.ptr 0 0),(5,.int .i64 j.1)]) (λ_=>[some (.var [.str x.name,.int .i64 x.arity,.int .i64 x.weight,.bool x.cy])]) (λj=>i-j.1) ⟨0,by simp⟩ [] ?_ (λ_=>aj _) ?_
   ·refine eL rfl ?_;simp only[go_sem,cS,bT,bP,bF]
   ·rintro ⟨j,hj,hjp⟩;by_cases Eg:(j:Int)<i
    ·have sC:j<g.length:=by omega
     simp only[go_sem,Eg];refine aC.draw [] 1 1 mixed rfl rfl (ae _) ?_;simp only[go_sem,cM,na,bh,sv sC,sw,ae];refine⟨by omega,?_⟩;refine aC.g ?_;cases he:(g[j].name.toList==x.name.toList) with
     | true =>
      simp only[go_sem];refine aC.g ?_;have hb:kN g i=false:=by
       simp only[kN,fresh,oA];rw[dM];right;rw[List.all_eq_false];exact⟨g[j],by rw[List.mem_take_iff_getElem];exact⟨j,by omega,rfl⟩,by simp[he]⟩
      simp only[go_sem];refine aC.g ?_;simp only[go_sem,bad i aL hb]
     |false =>
      simp only[go_sem];refine⟨⟨j+1,by omega,?_⟩,[],eL rfl ?_,by simp only;omega⟩
      ·rw[cx,List.all_append,hjp,ax sC];simp[he]
      ·simp only[go_sem,cS,bT,bF];rw[dt (by omega)];rfl
    ·simp only[go_sem,Eg];refine aC.g ?_;simp only[go_sem];have yw:j=i:=by omega
     subst yw;have jB:kN g j=true:=by
      simp only[kN,fresh,oA,Ce,bO];exact hjp
     refine⟨⟨j+1,aL,by rw[Vi,aD,jB];rfl⟩,[],eL rfl ?_,by simp only;omega⟩;simp only[go_sem,cS,bT];rw[dt (by omega)];rfl
  ·simp only[go_sem,na,bx];have h0 : 0<g.length:=by omega
   have dm:i=g.length:=by omega
   subst dm;refine aC.g ?_;have e0:(syms g).getD 0 .undef=g[0].aH:=sv h0;simp only[go_sem,na,Int.toNat_zero,e0,sw,ae,PL,kS,fP];refine⟨by omega,?_⟩;have f1:decide ((g.length:Int)<1)=false:=decide_eq_false c1;have f2:decide (256<(g.length:Int))=false:=decide_eq_false c2;rw[fH,f1,f2,aD,CF h0];simp[isTrue,uh]
theorem Ie (g:List Sy) (t:Tm):az Tryz.prog 85 [.ps 4 (syms g),t.aH] (.bool (t.cy g)):=by
 refine az.begin (rs:=[.tmp 4]) (m:=21) 1000 Tryz.func85 rfl rfl rfl (by decide) trivial ?_;by_cases c1 : 0<=t.head
 ·by_cases c2:t.head<(g.length:Int)
  ·have hi:t.head.toNat<g.length:=by omega
   simp only[go_sem,cq,na,c1,c2,sv hi,sw,ae];have:lN g t.head=g[t.head.toNat]:=CF hi;simp[Tm.cy,c1,c2,this]
  ·simp only[go_sem,cq,na,c1,c2,ae,Tm.cy]
 ·simp only[go_sem,cq,na,c1,ae,Tm.cy]
theorem Ymw (g:List Sy) (t:Tm):t.size<2 ^ 62->az Tryz.prog 126 [.ps 4 (syms g),t.aH] (.bool (t.known g)):=by
 induction t using Tm.fF with
 |h h ts ih =>
 intro hs;simp only[Tm.size]at hs;have hlen:=mH ts;refine az.begin (rs:=[.tmp 4]) (m:=39) 1000 Tryz.func126 rfl rfl rfl (by decide) trivial ?_;by_cases c1:h<0
 ·simp only[go_sem,cq,Tm.head,Tm.args,c1,Tm.known,ae]
 simp only[go_sem,cq,Tm.head,Tm.args,c1,ae];refine aC.draw [] 1 1 mixed rfl rfl (ae _) ?_;by_cases c2:(g.length:Int)<=h
 ·simp only[go_sem,cM,na,c2,ae];refine aC.g ?_;simp only[go_sem,Tm.known,c1,c2]
 have hi:h.toNat<g.length:=by omega
 have zX:lN g h=g[h.toNat]:=CF hi;have mj : 0<=h/\h<(g.length:Int):=by omega
 by_cases c3:(ts.length:Int)=g[h.toNat].arity
 ·simp only[go_sem,cM,na,c2,ae,ao,sv hi,sw,c3,mj];refine aC.g ?_;simp only[go_sem];have hk:Tm.known g (.mk h ts)=Tm.e8 g ts:=by simp[Tm.known,c1,c2,zX,c3]
  rw[hk];refine aC.cA (ι:={i:Nat // i<=ts.length/\Tm.e8 g (ts.take i)=true}) 1000 (λi=>dV 41 [(0,.ps 4 (syms g)),(3,.ptr 0 0),(5,.int .i64 i.1)]) (λ_=>[some (.var [.int .i64 h,.ps 2 (ts.map Tm.aH)])]) (λi=>ts.length-i.1) ⟨0,by simp[Tm.e8]⟩ ?_ (λ_=>by simp) ?_
  ·simp only[go_sem,cS,bC,bP,bF]
  ·rintro ⟨i,dm,zd⟩;simp only[go_sem,ao];refine⟨λbx=>?_,λuF=>?_⟩
   ·have aL:i<ts.length:=by omega
    refine⟨by omega,?_⟩;simp only[go_sem,bh,jT aL,dO,ae];rw[<-cq];have eM:=sn ts i aL;refine ak.bm [] (ih i aL (by omega)) (bL _ _ _) (by simp[go_sem,cV,cS]) ?_;simp only[bj,bA,bz,if_true];refine aC.g ?_;have h1:=Zwp g ts i aL;cases tA:ts[i].known g with
    |true =>
     simp only[go_sem];refine⟨⟨i+1,aL,by rw[h1,zd,tA];rfl⟩,?_,by simp only;omega⟩;simp only[go_sem,cS,bC,bF];rw[dt (by omega)];simp
    |false =>
     simp only[go_sem];refine aC.g ?_;simp only[go_sem];have h2:=Nz g ts i aL;rw[h2,tA];simp
   ·refine aC.g ?_;simp only[go_sem];have:i=ts.length:=by omega
    subst this;rw[bQ]at zd;rw[zd]
 ·simp only[go_sem,cM,na,c2,ae,ao,sv hi,sw,c3,mj];refine aC.g ?_;simp only[go_sem,Tm.known,c1,c2,zX,c3]
theorem Ykf (g:List Sy) (t:Tm):t.size<2 ^ 62->az Tryz.prog 127 [.ps 4 (syms g),t.aH] (.bool (t.g_ g)):=by
 induction t using Tm.fF with
 |h h ts ih =>
 intro hs;simp only[Tm.size]at hs;have hlen:=mH ts;refine az.begin (rs:=[.tmp 4]) (m:=28) 1000 Tryz.func127 rfl rfl rfl (by decide) trivial ?_;simp only[go_sem,cq,Tm.head,Tm.args];have hk:Tm.g_ g (.mk h ts)=Tm.fp g ts:=by simp[Tm.g_]
 rw[hk];refine aC.cA (ι:={i:Nat // i<=ts.length/\Tm.fp g (ts.take i)=true}) 1000 (λi=>dV 30 [(0,.ps 4 (syms g)),(3,.ptr 0 0),(5,.int .i64 i.1)]) (λ_=>[some (.var [.int .i64 h,.ps 2 (ts.map Tm.aH)])]) (λi=>ts.length-i.1) ⟨0,by simp[Tm.fp]⟩ ?_ (λ_=>by simp) ?_
 ·simp only[go_sem,cS,bC,bP,bF]
 ·rintro ⟨i,dm,zd⟩;simp only[go_sem,ao];refine⟨λbx=>?_,λuF=>?_⟩
  ·have aL:i<ts.length:=by omega
   refine⟨by omega,?_⟩;simp only[go_sem,bh,jT aL,dO,ae];rw[<-cq];have eM:=sn ts i aL;refine ak.bm [] (Ie g ts[i]) (bL _ _ _) (by simp[go_sem,cV,cS]) ?_;simp only[bj,bA,bz,if_true];refine aC.g ?_;have h1:=Zuj g ts i aL;have h2:=Nt g ts i aL;cases pI:ts[i].cy g with
   |true =>
    simp only[go_sem];refine aC.g ?_;simp only[go_sem];rw[h2,pI];simp
   | false =>
    simp only[go_sem,bh,jT aL,dO,ae,ao];refine⟨by omega,?_⟩;rw[<-cq];refine ak.bm [] (ih i aL (by omega)) (bL _ _ _) (by simp[go_sem,cV,cS]) ?_;simp only[bj,bA,bz,if_true];refine aC.g ?_;cases tA:ts[i].g_ g with
    |true =>
     simp only[go_sem];refine⟨⟨i+1,aL,by rw[h1,zd,pI,tA];rfl⟩,?_,by simp only;omega⟩;simp only[go_sem,cS,bC,bF];rw[dt (by omega)];simp
    |false =>
     simp only[go_sem];refine aC.g ?_;simp only[go_sem];rw[h2,tA];simp
  ·refine aC.g ?_;simp only[go_sem];have:i=ts.length:=by omega
   subst this;rw[bQ]at zd;rw[zd]
theorem P7 (g:List Sy) (t:Tm) (hs:t.size<2 ^ 62):az Tryz.prog 84 [.ps 4 (syms g),t.aH] (.int .i64 (t.term g)):=by
 refine az.begin (rs:=[.tmp 4]) (m:=20) 1000 Tryz.func84 rfl rfl rfl (by decide) trivial ?_;simp only[go_sem,cq,ae];refine ak.bm [] (Y4 g) (bL _ _ _) (by simp[go_sem,cS]) ?_;simp only[bj,bA,bz,if_true];refine aC.g ?_;cases c1:fH g with
 |false=>simp only[go_sem,Tm.term,c1]
 |true =>
 simp only[go_sem,ae];rw[<-cq];refine ak.bm [] (Y_ t hs) (bL _ _ _) (by simp[go_sem,cV]) ?_;simp only[bj,bA,bz,if_true];refine aC.g ?_;by_cases c2:t.check=0
 ·simp only[go_sem,c2,ae];rw[<-cq];refine ak.bm [] (Ymw g t hs) (bL _ _ _) (by simp[go_sem,cS,cV]) ?_;simp only[bj,bA,bz,if_true];refine aC.g ?_;cases c3:t.known g with
  |false=>simp only[go_sem,Tm.term,c1,c2,c3]
  |true =>
  simp only[go_sem,ae];rw[<-cq];refine ak.bm [] (Ykf g t hs) (bL _ _ _) (by simp[go_sem,cS,cV]) ?_;simp only[bj,bA,bz,if_true];refine aC.g ?_;cases c4:t.g_ g<;>simp only[go_sem,Tm.term,c1,c2,c3,c4]
 ·simp only[go_sem,c2,Tm.term,c1]
theorem Zwi (g:List Sy) (l:Li) (hl:l.l.size<2 ^ 62) (hr:l.r.size<2 ^ 62):az Tryz.prog 49 [.ps 4 (syms g),l.aH] (.int .i64 (l.check g)):=by
 refine az.begin (rs:=[.tmp 4]) (m:=41) 1000 Tryz.func49 rfl rfl rfl (by decide) trivial ?_;simp only[go_sem,Li.aH,Li.cs,ae];rw[<-cq l.l];refine ak.bm [] (P7 g l.l hl) (bL _ _ _) (by simp[go_sem,cS,cV]) ?_;simp only[bj,bA,bz,if_true];refine aC.g ?_;by_cases c1:l.l.term g=0
 ·simp only[go_sem,c1,ae];rw[<-cq l.r];refine ak.bm [] (P7 g l.r hr) (bL _ _ _) (by simp[go_sem,cS,cV]) ?_;simp only[bj,bA,bz,if_true];refine aC.g ?_;by_cases c2:l.r.term g=0
  ·simp only[go_sem,c2,ae];rw[<-cq l.l];refine ak.bm [] (Ie g l.l) (bL _ _ _) (by simp[go_sem,cS,cV]) ?_;simp only[bj,bA,bz,if_true];refine aC.g ?_;cases c3:l.l.cy g with
   |true =>
    by_cases c4:l.r.head=0 <;>
    ·simp only[go_sem,c4,ae];simp[Li.check,c1,c2,c3,c4]
   |false =>
    simp only[go_sem,ae];rw[<-cq l.r];refine ak.bm [] (Ie g l.r) (bL _ _ _) (by simp[go_sem,cS,cV]) ?_;simp only[bj,bA,bz,if_true];refine aC.g ?_;cases c4:l.r.cy g <;>
    ·simp only[go_sem];simp[Li.check,c1,c2,c3,c4]
  ·simp only[go_sem,c2];simp[Li.check,c1,c2]
 ·simp only[go_sem,c1];simp[Li.check,c1]
theorem HM (g:List Sy) (c:List Li) (hs:∀(i:Nat) (h:i<c.length),c[i].l.size<2 ^ 62/\c[i].r.size<2 ^ 62):az Tryz.prog 16 [.ps 4 (syms g),.ps 5 (lits c)] (.int .i64 (aW g c)):=by
 refine az.begin (rs:=[.tmp 4]) (m:=26) 1000 Tryz.func16 rfl rfl rfl (by decide) trivial ?_;simp only[go_sem];refine ak.bm [] (Y4 g) (bL _ _ _) (by simp[go_sem,cS]) ?_;simp only[bj,bA,bz,if_true];refine aC.g ?_;cases c1:fH g with
 |false =>
  simp only[go_sem];simp[aW,c1]
 |true =>
 by_cases c2 : 32<(c.length:Int)
 ·simp only[go_sem,dA,c2];simp[aW,c1,c2]
 simp only[go_sem,dA,c2];have Hj:aW g c=dH g c:=by simp[aW,c1,c2]
 rw[Hj];refine aC.cA (ι:={i:Nat // i<=c.length/\dH g (c.drop i)=dH g c}) 1000 (λi=>dV 28 [(0,.ps 4 (syms g)),(1,.ps 5 (lits c)),(5,.int .i64 i.1)]) (λ_=>[]) (λi=>c.length-i.1) ⟨0,by simp⟩ ?_ (λ_=>aj _) ?_
 ·simp only[go_sem,cS,bI,bP]
 ·rintro⟨i,hi,aD⟩;by_cases bx:(i:Int)<c.length
  ·have aL:i<c.length:=by omega
   rw[Vk g c i aL]at aD;simp only[go_sem,dA,bx,bh,qs aL,gf,ae];refine⟨by omega,?_⟩;have eM:=hs i aL;refine ak.bm [] (Zwi g c[i] eM.1 eM.2) (by simp only[Li.aH,Li.cs];exact bL _ _ _) (by simp[go_sem,cS,jU]) ?_;simp only[bj,bA,bz,if_true];refine aC.g ?_;by_cases c3:c[i].check g=0
   ·simp only[go_sem,c3];rw[if_neg (by simp[c3])]at aD;refine⟨⟨i+1,aL,aD⟩,?_,by simp only;omega⟩;simp only[go_sem,cS,bI];rw[dt (by omega)];rfl
   ·simp only[go_sem,c3];rw[if_pos c3]at aD;refine aC.g ?_;simp only[go_sem,aD]
  ·simp only[go_sem,dA,bx];refine aC.g ?_;simp only[go_sem];have:i=c.length:=by omega
   subst this;rw[<-aD,aJ,dH]
end Go.Proofs
namespace Go.Proofs
open Go Go.dq
theorem W8 {g:List Sy}(h:fH g=true): 1<=g.length/\g.length<=256:=by
 simp only[fH,aG,bX,cZ,decide_eq_false_iff_not]at h;omega
theorem Yc0 {g:List Sy}(h:fH g=true):isTrue (g.getD 0 Sy.wF)=true:=by
 simp only[fH,aG]at h;exact h.2
end Go.Proofs
namespace Go.Proofs
open Go Go.dq
attribute [local go_sem] Nat.reduceAdd Nat.reduceSub Nat.reduceMul Nat.reduceLeDiff Nat.reduceEqDiff Nat.reduceBEq
end Go.Proofs
namespace Go.Proofs
open Go Go.dq
mutual
def Tm.val (w:Wo)(f:Int->Int):Tm->Int
 |.mk h ts=>if h<0 then f (-1-h) else (w.rows.getD h.toNat []).getD (Tm.ZE w f ts 0).toNat 0
def Tm.ZE (w:Wo)(f:Int->Int):List Tm->Int->Int
 |[],a=>a
 |t :: ts,a=>Tm.ZE w f ts (a*w.size+t.val w f)
end
def Tm.Gm (w:Wo)(t:Tm):Prop:=t.head<0\/∀v∈w.rows.getD t.head.toNat [],0<=v/\v<w.size
mutual
def Tm.okW (w:Wo):Tm->Prop
 |.mk h ts=>h<0\/(h<w.rows.length/\ts.length<=4/\((w.rows.getD h.toNat []).length:Int)=w.size ^ ts.length/\Tm.Kc w ts)
def Tm.Kc (w:Wo):List Tm->Prop
 |[]=>True
 |t :: ts=>(t.okW w/\t.Gm w)/\Tm.Kc w ts
end
mutual
def Tm.iS (p:Int->Prop):Tm->Prop
 |.mk h ts=>(h<0->p (-1-h))/\Tm.ji p ts
def Tm.ji (p:Int->Prop):List Tm->Prop
 |[]=>True
 |t :: ts=>t.iS p/\Tm.ji p ts
end
theorem Pe {p:Int->Prop}:∀(ts:List Tm),(∀(i:Nat) (hi:i<ts.length),ts[i].iS p)->Tm.ji p ts
 |[],_=>trivial
 |t :: ts,h=>⟨h 0 (by simp),Pe ts λi hi=>h (i+1) (by simpa using hi)⟩
theorem Yly {o:List Int} {v x:Int}:x∈jK o v↔x∈o\/x=v:=by
 unfold jK;split
 ·constructor
  ·exact .inl
  ·rintro(h|rfl)<;>assumption
 ·simp
theorem N1:∀(l o:List Int) (x:Int),x∈da o l↔x∈o\/x∈l
 |[],o,x=>by simp[da]
 |v :: l,o,x=>by
  have h:da o (v :: l)=da (jK o v) l:=rfl;rw[h,N1 l,Yly,aU,or_assoc]
mutual
theorem EV {p:Int->Prop}:∀t:Tm,(∀v∈t.vars,p v)↔t.iS p
 |.mk h ts=>by
  simp only[Tm.vars,Tm.iS];rw[XW ts];refine and_congr_left λ_=>?_;split
  ·simp_all
  ·rename_i hn;simp[hn]
theorem XW {p:Int->Prop}:∀(ts:List Tm) (o:List Int),(∀v∈Tm.fW ts o,p v)↔(∀v∈o,p v)/\Tm.ji p ts
 |[],o=>by simp[Tm.fW,Tm.ji]
 | t :: ts,o=>by
  simp only[Tm.fW,Tm.ji];rw[XW ts,<-and_assoc];refine and_congr_left λ_=>?_;rw[<-EV t];simp only[N1];constructor
  ·exact λh=>⟨λv hv=>h v (.inl hv),λv hv=>h v (.inr hv)⟩
  ·rintro⟨h1,h2⟩ v (hv|hv)
   ·exact h1 v hv
   ·exact h2 v hv
end
theorem n_ {g:List Sy} {t:Tm} (h:t.term g=0):t.check=0/\t.known g=true/\t.g_ g=true:=by
 unfold Tm.term at h;split at h
 ·omega
 ·split at h
  ·rename_i h2;exact absurd h h2
  ·rename_i h2;split at h
   ·omega
   ·split at h
    ·omega
    ·rename_i h3 h4;exact⟨by simpa using h2,by simpa using h3,by simpa using h4⟩
theorem VF (t:Tm):∀v∈t.vars,0<=v:=by
 refine (EV (p:=λv=>0<=v) t).2 ?_;have key:∀t:Tm,t.iS (λv=>0<=v):=by
  intro t
  induction t using Tm.fF with
  |h h ts ih =>
   exact⟨λ_=>by omega,Pe ts ih⟩
 exact key t
end Go.Proofs
namespace Go.Proofs
open Go Go.dq
attribute [local go_sem] Nat.reduceAdd Nat.reduceSub Nat.reduceMul Nat.reduceLeDiff Nat.reduceEqDiff Nat.reduceBEq
end Go.Proofs
namespace Go.Proofs
open Go Go.dq
theorem Ykd (t:Tm):t.good=true->t.iS (λv=>0<=v/\v<256):=by
 induction t using Tm.fF with
 |h h ts ih =>
  intro hg;have xJ:=hg;simp only[Tm.good,aG,bX,cZ,decide_eq_false_iff_not]at hg;refine⟨λhn=>by omega,Pe ts λi hi=>ih i hi ?_⟩;have:=hg.2;rw[KT ts i hi,aG,aG]at this;exact this.2.1
theorem Ydr {t:Tm} (h:t.check=0):t.good=true/\t.size<=400/\t.depth<=40:=by
 unfold Tm.check at h;split at h
 ·omega
 ·split at h
  ·omega
  ·split at h
   ·exact⟨by assumption,by omega,by omega⟩
   ·omega
end Go.Proofs
namespace Go.Proofs
open Go Go.dq
attribute [local go_sem] Nat.reduceAdd Nat.reduceSub Nat.reduceMul Nat.reduceLeDiff Nat.reduceEqDiff Nat.reduceBEq
def eF {α:Type}(p : α->Bool):List α->Int->Int
 |[],_=>-1
 |a :: l,i=>if p a then i else eF p l (i+1)
theorem ET {α:Type} (p : α->Bool):∀(l:List α) (i:Int),0<=i->decide (0<=eF p l i)=l.any p
 |[],i,_=>by simp[eF]
 |a :: l,i,h=>by
  simp only[eF,dI];by_cases c:p a=true
  ·simp[c,h]
  ·rw[dB]at c;simp only[c,aX,if_false,cD];exact ET p l (i+1) (by omega)
theorem Zw3 (σ:av) (c:ah) (p:Sy->Bool) (l:List Sy) (hl:l.length<2 ^ 62) (hs:bH σ.length σ) (hc:c.low σ.length)
  (hp:∀(i:Nat) (h:i<l.length),ak Tryz.prog c [l[i].aH] σ (λr σ'=>r=.bool (p l[i])/\σ' = σ)) :
  ak Tryz.prog (.fn 134 [] []) [.ps 4 (syms l),c] σ (λr σ'=>r=.int .i64 (eF p l 0)/\σ' = σ):=by
 refine ak.begin (rs:=[.tmp 4]) (m:=17) 1000 Tryz.func134 rfl rfl rfl rfl rfl ?_;simp only[go_sem];refine aC.cA (ι:={i:Nat // i<=l.length/\eF p (l.drop i) i=eF p l 0}) 1000 (λi=>dV 19 [(0,.ps 4 (syms l)),(1,c),(7,.int .i64 l.length),(8,.int .i64 i.1)]) (λ_=>σ) (λi=>l.length-i.1) ⟨0,by simp⟩ ?_ (λ_=>ae _) ?_
 ·simp only[go_sem,cS,na,hc,hs,bP];exact gL σ
 ·rintro ⟨i,hi,aD⟩;by_cases bx:(i:Int)<l.length
  ·have aL:i<l.length:=by omega
   have hd:eF p (l.drop i) i=if p l[i] then (i:Int) else eF p (l.drop (i+1)) ((i:Int)+1):=by
    rw[ai aL];rfl
   simp only[go_sem,bx,na,bh,sv aL,sw,ae]
   (repeat((with_reducible refine And.intro ?_ ?_);·omega))
   refine(hp i aL).mono ?_;rintro r σ' ⟨rfl,rfl⟩;refine aC.g ?_;cases e:p l[i] with
   |true =>
    rw[hd,e,if_pos rfl]at aD;simp only[go_sem];refine aC.g ?_;simp only[go_sem,<-aD];rw[gy];exact⟨σ',gL σ',ae _,hs,trivial,rfl,rfl⟩
   |false =>
    rw[hd,e,if_neg (by decide)]at aD;simp only[go_sem];refine⟨⟨i+1,aL,aD⟩,?_,by simp only;omega⟩;simp only[go_sem,cS,hc,hs];rw[dt (by omega)];exact⟨rfl,gL σ'⟩
  ·have dm:i=l.length:=by omega
   subst dm;rw[aJ]at aD;simp only[go_sem,bx];refine aC.g ?_;simp only[go_sem,<-aD];rw[gy];exact⟨σ,gL σ,ae _,hs,trivial,rfl,rfl⟩
theorem Zoc (σ:av) (c:ah) (p:Sy->Bool) (l:List Sy) (hl:l.length<2 ^ 62) (hs:bH σ.length σ) (hc:c.low σ.length)
  (hp:∀(i:Nat) (h:i<l.length),ak Tryz.prog c [l[i].aH] σ (λr σ'=>r=.bool (p l[i])/\σ' = σ)) :
  ak Tryz.prog (.fn 95 [] []) [.ps 4 (syms l),c] σ (λr σ'=>r=.bool (l.any p)/\σ' = σ):=by
 refine ak.begin (rs:=[.tmp 4]) (m:=7) 1000 Tryz.func95 rfl rfl rfl rfl rfl ?_;simp only[go_sem];refine(Zw3 σ c p l hl hs hc hp).mono ?_;rintro r σ' ⟨rfl,rfl⟩;refine aC.g ?_;simp only[go_sem];rw[gy,ET p l 0 (by omega)];exact⟨σ',gL σ',ae _,hs,trivial,rfl,rfl⟩
theorem Zvf (x y:Sy):ak Tryz.prog (.fn 96 [] [.ptr 0 0]) [y.aH] [some (.var [.str x.name,.int .i64 x.arity,.int .i64 x.weight,.bool x.cy])]
  (λr σ'=>r=.bool (y.name.toList==x.name.toList)/\σ'=[some (.var [.str x.name,.int .i64 x.arity,.int .i64 x.weight,.bool x.cy])]):=by
 refine ak.begin (rs:=[.tmp 3]) (m:=7) 1000 Tryz.func96 rfl rfl rfl rfl rfl ?_;simp only[go_sem,Xb3];rw[gy];exact⟨[some (.var [.str x.name,.int .i64 x.arity,.int .i64 x.weight,.bool x.cy])],by simp[go_sem],ae _,by simp[go_sem],trivial,rfl,rfl⟩
theorem V5 (g:List Sy):az Tryz.prog 61 [.ps 4 (syms g)] (.int .i64 (if fH g then 0 else 1)):=by
 refine az.begin (rs:=[.tmp 2]) (m:=65) 1000 Tryz.func61 rfl rfl rfl (by decide) trivial ?_;by_cases c1:(g.length:Int)<1
 ·simp only[go_sem,na,c1,fH]
 by_cases c2 : 256<(g.length:Int)
 ·simp only[go_sem,na,c1,c2,fH]
 have h0 : 0<g.length:=by omega
 have e0:(syms g).getD 0 .undef=g[0].aH:=sv h0;have f1:decide ((g.length:Int)<1)=false:=decide_eq_false c1;have f2:decide (256<(g.length:Int))=false:=decide_eq_false c2;have Df:fH g=((List.range g.length).all (kN g)&&isTrue g[0]):=by rw[fH,f1,f2,CF h0];simp
 have bad:∀i,i<g.length->kN g i=false->fH g=false:=λi hi hb=>by
  rw[Df,Vo (p:=kN g) hi hb];rfl
 have hT:(g[0].name.toList==ByteArray.toList { data:=#[36,116,114,117,101] }&&(g[0].arity==0&&(g[0].weight==1&&g[0].cy==true)))=isTrue g[0]:=by simp[isTrue,uh]
 simp only[go_sem,na,c1,c2,Int.toNat_zero,e0,sw,ae,PL,kS,fP,hT];refine⟨by omega,λh=>?_,λh=>?_⟩
 ·have hf:isTrue g[0]=false:=by simpa using h
  have:fH g=false:=by rw[Df,hf,f_]
  rw[this];rfl
 have Z6:isTrue g[0]=true:=by simpa using h
 simp only[go_sem,Z6];refine aC.cA (ι:={i:Nat // i<=g.length/\(List.range i).all (kN g)=true}) 1000 (λi=>dV 66 [(0,.ps 4 (syms g)),(21,.ps 4 (syms g)),(22,.int .i64 g.length),(23,.int .i64 i.1)]) (λ_=>[]) (λi=>g.length-i.1) ⟨0,by simp⟩ ?_ (λ_=>aj _) ?_
 ·simp only[go_sem,cS,bP,na]
 ·rintro ⟨i,hi,aD⟩;by_cases bx:(i:Int)<g.length
  ·have aL:i<g.length:=by omega
   have oA:=CF aL;have hg0:(syms g).getD i .undef=g[i].aH:=sv aL;have oB:List.take i (syms g)=syms (g.take i):=by simp[syms,m_]
   generalize hx:g[i]=x at oA hg0;simp only[go_sem,na,bx,bh,hg0,sw,ae]
   (repeat((with_reducible refine And.intro ?_ ?_);·omega))
   rw[show List.take (i-0) (syms g)=syms (g.take i) from oB]
   refine(Zoc _ _ (λy=>y.name.toList==x.name.toList) (g.take i) (by rw[bN];omega) ?_ ?_ ?_).mono ?_
   ·simp[go_sem]
   ·simp[go_sem]
   ·exact λj hj=>Zvf x _
   rintro r σ' ⟨rfl,rfl⟩;refine aC.g ?_;have B4:fresh g i = !(g.take i).any (λy=>y.name.toList==x.name.toList):=by
    rw[fresh,oA,List.all_eq_not_any_not];simp
   have jB:kN g i=(x.right && !(g.take i).any (λy=>y.name.toList==x.name.toList)):=by rw[kN,oA,B4]
   have qy:∀(hb:x.right=false\/(g.take i).any (λy=>y.name.toList==x.name.toList)=true),(if fH g=true then (0:Int) else 1)=1:=λhb=>by
    rw[bad i aL (by rw[jB];rcases hb with h|h<;>simp[h])];rfl
   generalize (g.take i).any (λy=>y.name.toList==x.name.toList)=tw at *
   by_cases d1:(x.name.size:Int)<1
   ·simp only[go_sem,DO,d1];refine aC.g ?_;simp only[go_sem,qy (.inl (zK (.inl d1)))]
   by_cases d2 : 64<(x.name.size:Int)
   ·simp only[go_sem,DO,d1,d2];refine aC.g ?_;simp only[go_sem,qy (.inl (zK (.inr (.inl d2))))]
   cases tw with
   |true =>
    simp only[go_sem,DO,d1,d2];refine aC.g ?_;simp only[go_sem,qy (.inr rfl)]
   |false =>
   by_cases d3:x.arity<0
   ·simp only[go_sem,DO,d1,d2,d3];refine aC.g ?_;simp only[go_sem,qy (.inl (zK (.inr (.inr (.inl d3)))))]
   by_cases d4 : 8<x.arity
   ·simp only[go_sem,DO,d1,d2,d3,d4];refine aC.g ?_;simp only[go_sem,qy (.inl (zK (.inr (.inr (.inr (.inl d4))))))]
   by_cases d5:x.weight<1
   ·simp only[go_sem,DO,d1,d2,d3,d4,d5];refine aC.g ?_;simp only[go_sem,qy (.inl (zK (.inr (.inr (.inr (.inr (.inl d5)))))))]
   by_cases d6 : 1000<x.weight
   ·simp only[go_sem,DO,d1,d2,d3,d4,d5,d6];refine aC.g ?_;simp only[go_sem,qy (.inl (zK (.inr (.inr (.inr (.inr (.inr d6)))))))]
   have Ce:=SV ⟨d1,d2,d3,d4,d5,d6⟩;simp only[go_sem,DO,d1,d2,d3,d4,d5,d6];refine⟨⟨i+1,aL,by rw[Vi,aD,jB,Ce];rfl⟩,?_,by simp only;omega⟩;simp only[go_sem,cS,na];rw[dt (by omega)];rfl
  ·have dm:i=g.length:=by omega
   simp only[go_sem,bx];subst dm;refine aC.g ?_;rw[Df,aD,Z6];simp only[go_sem]
end Go.Proofs
namespace Go.Proofs
open Go Go.dq
mutual
def Tm.pre:Tm->Int->List (Int×Tm)
 |.mk h ts,d=>(d,.mk h ts):: Tm.nC ts (d+1)
def Tm.nC:List Tm->Int->List (Int×Tm)
 |[],_=>[]
 |t :: ts,d=>t.pre d++Tm.nC ts d
end
mutual
theorem Iw:∀(t:Tm) (d:Int),(t.pre d).length=t.size
 |.mk h ts,d=>by simp only[Tm.pre,aq,Tm.size];rw[Pl ts];omega
theorem Pl:∀(ts:List Tm) (d:Int),(Tm.nC ts d).length=Tm.bw ts
 |[],_=>rfl
 |t :: ts,d=>by simp only[Tm.nC,aA,Tm.bw];rw[Iw t,Pl ts]
end
def rem (Gl:List (Int×Tm)):List (Int×Tm):=Gl.flatMap λx=>x.2.pre x.1
theorem Yt0:rem []=[]:=rfl
theorem Lj (x:Int×Tm)(r:List (Int×Tm)):rem (x :: r)=x.2.pre x.1++rem r:=rfl
theorem Yt9 (t:Tm)(d:Int):rem [(d,t)]=t.pre d:=by rw[Lj,Yt0,bf]
theorem SR (d:Int) (ts:List Tm) (r:List (Int×Tm)):rem (ts.map (λt=>(d,t))++r)=Tm.nC ts d++rem r:=by
 induction ts with
 |nil=>rfl
 |cons t ts ih =>
  rw[aI,bq,Lj,ih,<-cg];rfl
theorem P5 (Gl:List (Int×Tm)):Gl.length<=(rem Gl).length:=by
 induction Gl with
 |nil=>exact ae _
 |cons x r ih=>rw[Lj,aA,Iw,aq];have:=Y7 x.2;omega
def l5 (x:Int×Tm):ah:=.agg [.int .i64 x.2.head,.ps 2 (x.2.args.map Tm.aH),.int .i64 x.1]
theorem Yhw (x:Int×Tm):(l5 x).cells=[.int .i64 x.2.head,.ps 2 (x.2.args.map Tm.aH),.int .i64 x.1]:=rfl
theorem UR (x:Int×Tm):l5 x=.agg [.int .i64 x.2.head,.ps 2 (x.2.args.map Tm.aH),.int .i64 x.1]:=rfl
theorem Il {n:Nat}(x:Int×Tm):(l5 x).low n:=⟨trivial,bC _,trivial,trivial⟩
theorem DX {n:Nat}(l:List (Int×Tm)):bG n (l.map l5):=wx λx _=>Il x
theorem uQ {n:Nat}{b:List ah}:∀ {a:List ah},bG n a->bG n b->bG n (a++b)
 |[],_,h=>h
 |_ :: _,ha,h=>⟨ha.1,uQ ha.2 h⟩
def ri (T:Int)(x:Int×Tm):Prop:=1<=x.1/\x.1+x.2.size<=T
def kl (t:Tm):Bool:=!(t.head<0&&decide (0<t.args.length)||t.head < -256||decide (1023<t.head)||decide (8<t.args.length))
def gO (l:List (Int×Tm))(a:Int):Int:=l.foldl (λm x=>max m x.1) a
theorem VH (l m:List (Int×Tm))(a:Int):gO (l++m) a=gO m (gO l a):=pz
mutual
theorem Ti:∀(t:Tm) (d a:Int),gO (t.pre d) a=max a (d+t.depth-1)
 |.mk h ts,d,a=>by
  have e:gO ((Tm.mk h ts).pre d) a=gO (Tm.nC ts (d+1)) (max a d):=rfl;rw[e,Xu ts (d+1) (max a d) (by omega)];simp only[Tm.depth];omega
theorem Xu:∀(ts:List Tm) (d a:Int),d-1<=a->gO (Tm.nC ts d) a=max a (d+Tm.gH ts-1)
 |[],d,a,h=>by simp only[Tm.nC,gO,List.foldl_nil,Tm.gH];omega
 |t :: ts,d,a,h=>by
  simp only[Tm.nC,VH,Tm.gH];rw[Ti t d a,Xu ts d _ (by omega)];omega
end
mutual
theorem YL:∀(t:Tm) (d:Int),(t.pre d).any (λx=>!kl x.2) = !t.good
 |.mk h ts,d=>by
  simp only[Tm.pre,dI,Tm.good];rw[Xo ts];simp only[kl,Tm.head,Tm.args,Bool.not_and,Bool.not_not];rfl
theorem Xo:∀(ts:List Tm) (d:Int),(Tm.nC ts d).any (λx=>!kl x.2) = !Tm.fy ts
 |[],d=>rfl
 |t :: ts,d=>by
  simp only[Tm.nC,rP,Tm.fy];rw[YL t,Xo ts,Bool.not_and]
end
theorem Vl:∀(l:List (Int×Tm)) (a:Int),0<=a->a<2 ^ 62->(∀x∈l,x.1<2 ^ 62)->0<=gO l a/\gO l a<2 ^ 62
 |[],a,h0,h1,_=>⟨h0,h1⟩
 |x :: l,a,h0,h1,h=>by
  have hx:=h x (by simp);exact Vl l (max a x.1) (by omega) (by omega) λz hz=>h z (by simp[hz])
theorem Yq {α:Type}{l:List α}{k:Nat}(h:k<l.length):l.take (k+1)=l.take k++[l[k]]:=by
 rw[cx,ax h];rfl
theorem Yi5 (t:Tm) (d:Int):∀x∈t.pre d,d<=x.1/\x.1<=d+t.size:=by
 have key:∀(t:Tm) (d:Int),∀x∈t.pre d,d<=x.1/\x.1<=d+t.depth-1:=by
  intro t
  induction t using Tm.fF with
  | h h ts ih =>
   intro d x hx;simp only[Tm.pre,aU]at hx;rcases hx with rfl|hx
   ·simp only[Tm.depth];omega
   ·have hs:∀(us:List Tm) (e:Int),(∀(i:Nat) (hi:i<us.length) (d:Int) (x:Int×Tm),x∈us[i].pre d->d<=x.1/\x.1<=d+us[i].depth-1)->∀x∈Tm.nC us e,e<=x.1/\x.1<=e+Tm.gH us-1:=by
     intro us
     induction us with
     |nil=>intro e _ x hx;simp[Tm.nC]at hx
     |cons u us qj =>
      intro e hh x hx;simp only[Tm.nC,a_]at hx;simp only[Tm.gH];rcases hx with hx|hx
      ·have:=hh 0 (by simp) e x hx;simp only[d_]at this;omega
      ·have:=qj e (λi hi=>hh (i+1) (by simpa using hi)) x hx;omega
    have:=hs ts (d+1) (λi hi d x hx=>ih i hi d x hx) x hx;simp only[Tm.depth];omega
 intro x hx;have:=key t d x hx;have:=Nl t;omega
def wC (o:List Int)(x:Int×Tm):List Int:=if x.2.head<0 then jK o (-1-x.2.head) else o
def ld (l:List (Int×Tm))(o:List Int):List Int:=l.foldl wC o
theorem Xz (l m:List (Int×Tm))(o:List Int):ld (l++m) o=ld m (ld l o):=pz
theorem Yj9 (o l:List Int)(v:Int):da o (jK l v)=jK (da o l) v:=by
 unfold jK;by_cases h:v∈l
 ·rw[if_pos h,if_pos ((N1 l o v).2 (.inr h))]
 ·rw[if_neg h];simp only[da,pz,rR,List.foldl_nil];rfl
theorem Nn:∀(l2 o l1:List Int),da o (da l1 l2)=da (da o l1) l2
 |[],_,_=>rfl
 |v :: l2,o,l1=>by
  have h:∀o,da o (v :: l2)=da (jK o v) l2:=λ_=>rfl;rw[h,Nn l2,Yj9,h]
mutual
theorem SG:∀(t:Tm) (d:Int) (o:List Int),ld (t.pre d) o=da o t.vars
 |.mk h ts,d,o=>by
  have e:ld ((Tm.mk h ts).pre d) o=ld (Tm.nC ts (d+1)) (if h<0 then jK o (-1-h) else o):=rfl
  rw[e,Xd ts (d+1) _ (if h<0 then [-1-h] else []) o ?_]
  ·rfl
  ·split<;>rfl
theorem Xd:∀(ts:List Tm) (d:Int) (o l o0:List Int),da o0 l=o->ld (Tm.nC ts d) o=da o0 (Tm.fW ts l)
 |[],d,o,l,o0,h=>h.symm
 |t :: ts,d,o,l,o0,h=>by
  simp only[Tm.nC,Xz,Tm.fW];rw[SG t d o];exact Xd ts d _ _ o0 (by rw[Nn,h])
end
theorem Yd9 {o:List Int}{v:Int}(h:o.Nodup):(jK o v).Nodup:=by
 unfold jK;split
 ·exact h
 ·rename_i hn;rw[gC];exact⟨h,by simp,by simp;intro a ha wN;exact hn (wN ▸ ha)⟩
theorem Vy:∀(l o:List Int),o.Nodup->(da o l).Nodup
 |[],_,h=>h
 |v :: l,o,h=>Vy l (jK o v) (Yd9 h)
theorem VB:∀(l o:List Int),l.Nodup->(∀v∈l,v ∉ o)->da o l=o++l
 |[],o,_,_=>by simp[da]
 | v :: l,o,h,hd=>by
  have h':da o (v :: l)=da (jK o v) l:=rfl;have hv:jK o v=o++[v]:=if_neg (hd v (by simp));rw[h',hv,VB l _ (fM.1 h).2]
  ·simp
  ·intro x hx hm;rcases a_.1 hm with hm|hm
   ·exact hd x (by simp[hx]) hm
   ·rw[aK.1 hm]at hx;exact(fM.1 h).1 hx
mutual
theorem Ybd:∀t:Tm,t.vars.Nodup
 |.mk h ts=>VN ts _ (by split<;>simp)
theorem VN:∀(ts:List Tm) (o:List Int),o.Nodup->(Tm.fW ts o).Nodup
 |[],_,h=>h
 |t :: ts,o,h=>VN ts _ (Vy _ _ h)
end
theorem Yja (t:Tm)(d:Int):ld (t.pre d) []=t.vars:=by
 rw[SG,VB _ _ (Ybd t) (by simp),aY]
theorem Yg1 (l:List (Int×Tm)):∀o:List Int,(ld l o).length<=o.length+l.length:=by
 induction l with
 |nil=>intro o;simp[ld]
 | cons x l ih =>
  intro o;have:=ih (wC o x);have h2:(wC o x).length<=o.length+1:=by
   unfold wC;split
   ·exact ZD _ _
   ·omega
  have e:ld (x :: l) o=ld l (wC o x):=rfl;rw[e];simp only[aq];omega
mutual
theorem TF:∀(t:Tm),t.fit->∀(d:Int),∀x∈t.pre d,x.2.fit
 |.mk h ts,hf,d,x,hx=>by
  simp only[Tm.pre,aU]at hx;rcases hx with rfl|hx
  ·exact hf
  ·exact YO ts hf.2 _ x hx
theorem YO:∀(ts:List Tm),Tm.fits ts->∀(d:Int),∀x∈Tm.nC ts d,x.2.fit
 |[],_,d,x,hx=>by simp[Tm.nC]at hx
 |t :: ts,hf,d,x,hx=>by
  simp only[Tm.nC,a_]at hx;rcases hx with hx|hx
  ·exact TF t hf.1 d x hx
  ·exact YO ts hf.2 d x hx
end
end Go.Proofs
namespace Go.Proofs
open Go Go.dq
attribute [local go_sem] Nat.reduceAdd Nat.reduceSub Nat.reduceMul Nat.reduceLeDiff Nat.reduceEqDiff Nat.reduceBEq
theorem Zwa (ts:List Tm) (n0:Nat) (lG:av) (S:Nat->av) (p:Nat) (y:ah) (h0 : lG.length=n0) (Az : lG++[none]=S 0) (hlen:∀i,(S i).length=n0+1) (fc:∀i,bW (S i) p=some (.var [.ps 2 (ts.map Tm.aH)])) (hp:p<n0)
  (hs:∀i,bH (n0+1) (S i)) (lJ:bH n0 lG) (oU:y.low n0) (hl:ts.length<2 ^ 62)
  (hy:∀i (h:i<ts.length),ak Tryz.prog y [.int .i64 ((ts.length:Int)-1-i),ts[ts.length-1-i].aH] (S i) (λr σ'=>r=.bool true/\n0+1<=σ'.length/\bH σ'.length σ'/\∃π:Nat->Nat,(∀b,b<n0->π b=b)/\(∀b b',b<n0+1->b'<n0+1->π b = π b'->b=b')/\iH π σ' 0 (S (i+1)))) :
  ak Tryz.prog (.fn 183 [] [.ptr p 0]) [y] lG (λ_ σ'=>σ'=S ts.length):=by
 subst h0;refine ak.iq (rs:=[]) (m:=17) Tryz.func183 rfl rfl rfl rfl rfl ?_;refine aC.pad 1 (ae _) (by simp[go_sem,oU,hp]) lJ ?_;rw[show List.replicate 1 (none:Option bS)=[none] from rfl,Az]
 refine aC.g ?_;simp only[go_sem,fc,ae,ao];rw[dt (by omega)];have FK:bH (lG.length+1) (S 0):=hs 0;refine aC.cA (ι:={i:Nat // i<=ts.length}) 1000 (λi=>dV 19 [(0,y),(1,.ptr p 0),(3,.int .i64 ((ts.length:Int)-1-i.1))]) (λi=>S i.1) (λi=>ts.length-i.1) ⟨0,by omega⟩ ?_ (λi=>by rw[hlen];exact eH _) ?_
 ·simp only[go_sem,hlen,FK,oJ (eH _) oU,bP,Int.sub_zero];exact⟨gL _,by omega⟩
 ·rintro⟨i,hi⟩;by_cases bx : 0<=(ts.length:Int)-1-i
  ·have aL:i<ts.length:=by omega
   have hb:ts.length-1-i<ts.length:=by omega
   have hn:((ts.length:Int)-1-i).toNat=ts.length-1-i:=by omega
   simp only[go_sem,bx,fc,ae,ao,hn,jT hb,dO];rw[<-cq]
   (repeat((with_reducible refine And.intro ?_ ?_);·omega))
   refine aC.Ak (.bool true) trivial (by rw[hlen];exact eH _) ?_ ?_ ?_ ?_ ?_ ?_
   ·rw[hlen];exact oJ (eH _) oU
   ·simp[go_sem,cV]
   ·rw[hlen];exact hs i
   ·rw[hlen];simp[go_sem,Gz,GG,E2,oU,hp,bC,cV]
   ·rw[hlen];have pJ:=oJ (eH _) oU;simp[go_sem,pJ,bC,cV];omega
   rw[hlen];refine(hy i aL).mono ?_;rintro r σ' ⟨k1,k2,k3,π,k4,k5,k6⟩;refine⟨k1,k2,k3,π,S (i+1),hlen _,k4,k5,k6,hs _,?_⟩;refine aC.g ?_;simp only[go_sem];refine⟨⟨i+1,aL⟩,?_,by simp only;omega⟩;have FL:bH (lG.length+1) (S (i+1)):=hs (i+1);simp only[go_sem,hlen,FL,oJ (eH _) oU];rw[dt (by omega)];exact⟨by rw[show(ts.length:Int)-1-i-1=ts.length-1-((i+1:Nat):Int) by omega],gL _,by omega⟩
  ·have dm:i=ts.length:=by omega
   subst dm;simp only[go_sem,bx];refine aC.g ?_;simp only[go_sem];rw[gy];exact⟨S ts.length,gL _,by rw[hlen];exact eH _,by rw[hlen];exact hs _,trivial,rfl⟩
theorem Zrx (ts:List Tm) (σ:av) (hs:bH σ.length σ):ak Tryz.prog (.fn 157 [] []) [.ps 2 (ts.map Tm.aH)] σ
  (λr σ'=>r=.fn 183 [] [.ptr σ.length 0]/\σ' = σ++[some (.var [.ps 2 (ts.map Tm.aH)])]):=by
 refine ak.begin (rs:=[.tmp 2]) (m:=3) 1000 Tryz.func157 rfl rfl rfl rfl rfl ?_;simp only[go_sem];rw[DW,gy];exact⟨_,gL _,by simp,qO (ph (by simp) hs) (by simp[go_sem,bC]),by simp[go_sem],rfl,rfl⟩
theorem Zl (t:Tm) (σ:av) (hs:bH σ.length σ):ak Tryz.prog (.fn 130 [] []) [t.aH] σ
  (λr σ'=>r=.fn 156 [] [.ptr σ.length 0]/\σ' = σ++[some (.var [.int .i64 t.head,.ps 2 (t.args.map Tm.aH)])]):=by
 refine ak.begin (rs:=[.tmp 2]) (m:=3) 1000 Tryz.func130 rfl rfl rfl rfl rfl ?_;simp only[go_sem,cq];rw[DW,gy];exact⟨_,gL _,by simp,qO (ph (by simp) hs) (by simp[go_sem,bC]),by simp[go_sem],rfl,rfl⟩
theorem XL (t:Tm) (eM:t.size<999999999) (n0:Nat) (zV:n0<=8) (lG:av) (b0 b1 b2 b3 b4 b5 b6 b7:Nat->Option bS) (p:Nat) (y:ah) (h0 : lG.length=n0)
  (Az : lG++List.replicate (8-n0) none=[b0 0,b1 0,b2 0,b3 0,b4 0,b5 0,b6 0,b7 0]) (fc:bW [b0 0,b1 0,b2 0,b3 0,b4 0,b5 0,b6 0,b7 0] p=some (.var [.int .i64 t.head,.ps 2 (t.args.map Tm.aH)])) (hp:p<n0)
  (hs:∀k,bH 8 [b0 k,b1 k,b2 k,b3 k,b4 k,b5 k,b6 k,b7 k]) (lJ:bH n0 lG) (oU:y.low n0)
  (hy:∀k (h:k<(t.pre 1).length),ak Tryz.prog y [.int .i64 (t.pre 1)[k].1,(t.pre 1)[k].2.aH] [b0 k,b1 k,b2 k,b3 k,b4 k,b5 k,b6 k,b7 k]
   (λr σ'=>r=.bool true/\8<=σ'.length/\bH σ'.length σ'/\∃π:Nat->Nat,(∀b,b<n0->π b=b)/\(∀b b',b<8->b'<8->π b = π b'->b=b')/\iH π σ' 0 [b0 (k+1),b1 (k+1),b2 (k+1),b3 (k+1),b4 (k+1),b5 (k+1),b6 (k+1),b7 (k+1)])) :
  ak Tryz.prog (.fn 156 [] [.ptr p 0]) [y] lG (λ_ σ'=>σ'=[b0 t.size,b1 t.size,b2 t.size,b3 t.size,b4 t.size,b5 t.size,b6 t.size,b7 t.size]):=by
 subst h0;refine ak.iq (rs:=[]) (m:=43) Tryz.func156 rfl rfl rfl rfl rfl ?_;refine aC.pad (8-lG.length) (ae _) (by simp[go_sem,oU,hp]) lJ ?_;rw[Az];have B_:=Iw t 1;refine aC.g ?_;simp only[go_sem,fc,ae];refine⟨by decide,?_⟩;refine aC.ep (ι:={x:List (Int×Tm)×List ah×Nat // x.2.2<=t.size/\(t.pre 1).drop x.2.2=rem x.1/\(∀z∈x.1,ri (t.size+1) z)/\bG 0 x.2.1}) 1000 (λx=>dV 45 [(0,y),(1,.ptr p 0),(3,.ptr 9 0)])
  (λx=>[b0 x.1.2.2,b1 x.1.2.2,b2 x.1.2.2,b3 x.1.2.2,b4 x.1.2.2,b5 x.1.2.2,b6 x.1.2.2,b7 x.1.2.2,some (.row (x.1.1.reverse.map l5++x.1.2.1) 0),some (.var [.os 8 0 x.1.1.length 3])]) (λx=>t.size-x.1.2.2)
  ⟨([(1,t)],[],0),aj _,by rw[dQ];exact(Yt9 t 1).symm,by simp[ri,Int.add_comm],trivial⟩ [] ?_ (λ_=>by simp;omega) ?_
 ·refine eL (O9 _ _) ⟨?_,?_,?_,?_⟩
  ·have pJ:=sP (pi []) _ (λ_ _=>rfl) [y] ⟨oU,trivial⟩;simp only[eC,gG,and_true]at pJ;simp only[go_sem,pJ]
  ·refine Ct (B:=[b0 0,b1 0,b2 0,b3 0,b4 0,b5 0,b6 0,b7 0]) (hs 0) (λ_ _=>rfl) ?_;simp only[go_sem,pA,mU,aY,aI,aR,bf,UR,bT (bC _)]
  ·have pJ:=oJ (m:=10) (by omega) oU;simp only[go_sem,pJ];omega
  ·refine qO (σ:=[b0 0,b1 0,b2 0,b3 0,b4 0,b5 0,b6 0,b7 0]) (ph (bV 8 2) (hs 0)) ?_;simp[go_sem,bC,UR]
 ·rintro ⟨⟨Gl,junk,k⟩,h1,h2,h3,h4⟩;simp only at h1 h2 h3 h4;cases Gl with
  | nil =>
   have hk:k=t.size:=by
    have:=congrArg List.length h2;simp only[rem,qo,aF,cr,B_]at this;omega
   subst hk;simp only[go_sem,aF,bP,kY];refine aC.g ?_;simp only[go_sem];rw[gy];refine⟨[b0 t.size,b1 t.size,b2 t.size,b3 t.size,b4 t.size,b5 t.size,b6 t.size,b7 t.size],by simp[go_sem],by simpa using zV,hs _,trivial,rfl⟩
  | cons x r =>
   have hlen:((x :: r).reverse.map l5++junk).length=r.length+1+junk.length:=by simp;omega
   have kp:(x :: r).reverse.map l5++junk=r.reverse.map l5++l5 x :: junk:=by simp
   have FA:(r.reverse.map l5++l5 x :: junk).getD r.length .undef=l5 x:=by simp
   have wS:(r.reverse.map l5++l5 x :: junk).length=r.length+1+junk.length:=by rw[<-kp,hlen]
   have FU:r.length<1000000000:=by
    have:=congrArg List.length h2;have h5:=P5 (x :: r);rw[cr,B_]at this;simp only[aq]at h5;omega
   have sW:IntKind.i64.wrap ((r.length:Int)+1-1)=r.length:=by rw[dt (by omega)];omega
   have oS:(0:Int)<r.length+1:=by omega
   simp only[go_sem,aq,kp,fJ,fK,oS,sW,wS,bh,FA,Yhw,ae];obtain⟨d,⟨hd,ts⟩⟩:=x;have hk:k<(t.pre 1).length:=by
    have:=congrArg List.length h2;have h5:=P5 ((d,Tm.mk hd ts):: r);rw[cr]at this;simp only[aq]at h5;omega
   rw[ai hk,Lj,Tm.pre,bq,<-SR]at h2;obtain⟨hLk,hdr⟩:=kZ h2;have j8:r.length+Tm.bw ts<999999999:=by
    have:=congrArg List.length hdr;rw[cr,SR,aA,Pl]at this;have:=P5 r;omega
   have Jf:ri (t.size+1) (d,Tm.mk hd ts):=h3 _ (by simp);simp only[ri,Tm.size]at Jf;have yF:=hy k hk;rw[hLk]at yF;simp only[Tm.head,Tm.args,gU];rw[yp];have sC:∀n,bG n (r.reverse.map l5++l5 (d,Tm.mk hd ts):: junk):=λn=>uQ (DX _) ⟨Il _,iD (aj _) h4⟩
   (repeat((with_reducible refine And.intro ?_ ?_);·omega))
   refine aC.tf (σ:=[b0 k,b1 k,b2 k,b3 k,b4 k,b5 k,b6 k,b7 k]) (τ:=[some (.row (r.reverse.map l5++l5 (d,Tm.mk hd ts):: junk) 0),some (.var [.os 8 0 r.length 3]),some (.var [.int .i64 hd,.ps 2 (ts.map Tm.aH),.int .i64 d])]) (.bool true) trivial (by simpa using zV) ?_ ?_ (hs k) ?_ ?_ ?_ ?_ ?_
   ·exact oJ zV oU
   ·simp[go_sem,cV]
   ·simp[go_sem,Gz,GG,E2,Yxh,Va,Xb4,oU,hp,bC,cV]
   ·simp only[Ww,XE,Ytk,Yr9];refine⟨Yeo (sC _),?_,?_,trivial⟩
    ·simp[Gz,GG,Va]
    ·simp[Gz,GG,E2,go_sem,bC]
   ·have pJ:=oJ (m:=11) (by omega) oU;simp[go_sem,pJ,bC,cV];omega
   ·exact⟨sC _,⟨by simp[go_sem],trivial⟩,by simp[go_sem,ke,bS.low,bC],trivial⟩
   refine yF.mono ?_;rintro r' σ' ⟨k1,k2,k3,π,k4,k5,k6⟩;refine⟨k1,k2,k3,π,[b0 (k+1),b1 (k+1),b2 (k+1),b3 (k+1),b4 (k+1),b5 (k+1),b6 (k+1),b7 (k+1)],rfl,k4,k5,k6,hs _,?_⟩;refine aC.g ?_;simp only[go_sem];have Ca:=ph (m:=11) (by decide) (hs (k+1));simp only[yS,HX,and_true]at Ca;refine(Zrx ts _ ?_).mono ?_
   ·simp only[go_sem,yS,Ca,sC,bC,zF,and_true,true_and,aq,aF];decide
   rintro _ _ ⟨rfl,rfl⟩;refine aC.g ?_;simp only[go_sem];refine aC.rangeFunc (dV 45 [(3,.ptr 9 0),(4,.ptr 10 0)]) ?_ ?_ (λρ ht xL kU tv=>?_)
   ·simp only[go_sem]
   ·exact λb hb=>by cases hb
   simp only[go_sem]
   let S:Nat->av:=λi=>match i with
    |0=>[b0 (k+1),b1 (k+1),b2 (k+1),b3 (k+1),b4 (k+1),b5 (k+1),b6 (k+1),b7 (k+1),some (.row (r.reverse.map l5++l5 (d,Tm.mk hd ts):: junk) 0),some (.var [.os 8 0 r.length 3]),some (.var [.int .i64 hd,.ps 2 (ts.map Tm.aH),.int .i64 d]),some (.var [.ps 2 (ts.map Tm.aH)]),some (.loop (ρ.at .ready)),none]
    |i+1=>[b0 (k+1),b1 (k+1),b2 (k+1),b3 (k+1),b4 (k+1),b5 (k+1),b6 (k+1),b7 (k+1),none,some (.var [.os 13 0 (r.length+(i+1)) 3]),some (.var [.int .i64 hd,.ps 2 (ts.map Tm.aH),.int .i64 d]),some (.var [.ps 2 (ts.map Tm.aH)]),some (.loop (ρ.at .ready)),some (.row (((ts.drop (ts.length-(i+1))).map (λu=>(d+1,u))++r).reverse.map l5) 0)]
   have Az:S 0=[b0 (k+1),b1 (k+1),b2 (k+1),b3 (k+1),b4 (k+1),b5 (k+1),b6 (k+1),b7 (k+1),some (.row (r.reverse.map l5++l5 (d,Tm.mk hd ts):: junk) 0),some (.var [.os 8 0 r.length 3]),some (.var [.int .i64 hd,.ps 2 (ts.map Tm.aH),.int .i64 d]),some (.var [.ps 2 (ts.map Tm.aH)]),some (.loop (ρ.at .ready)),none]:=rfl;have I2:∀i,S (i+1)=[b0 (k+1),b1 (k+1),b2 (k+1),b3 (k+1),b4 (k+1),b5 (k+1),b6 (k+1),b7 (k+1),none,some (.var [.os 13 0 (r.length+(i+1)) 3]),some (.var [.int .i64 hd,.ps 2 (ts.map Tm.aH),.int .i64 d]),some (.var [.ps 2 (ts.map Tm.aH)]),some (.loop (ρ.at .ready)),some (.row (((ts.drop (ts.length-(i+1))).map (λu=>(d+1,u))++r).reverse.map l5) 0)]:=λi=>rfl;refine(Zwa ts 13 _ S 11 (.ni 12) rfl rfl (λi=>by cases i<;>rfl) (λi=>by cases i<;>rfl) (by decide) (λi=>?_) ?_ (cQ 12) ?_ (λi hi=>?_)).mono ?_
   ·have ka:bG 14 ρ.tm:=by rw[ht];simp[go_sem,Cz,CH]
    have aD:=ph (m:=14) (by decide) (hs (k+1));cases i with
    |zero=>exact qO (σ:=[b0 (k+1),b1 (k+1),b2 (k+1),b3 (k+1),b4 (k+1),b5 (k+1),b6 (k+1),b7 (k+1)]) aD ⟨sC _,⟨by simp[go_sem],trivial⟩,by simp[go_sem,ke,bS.low,bC],by simp[go_sem,ke,bS.low,bC],ka,trivial,trivial⟩
    |succ i=>exact qO (σ:=[b0 (k+1),b1 (k+1),b2 (k+1),b3 (k+1),b4 (k+1),b5 (k+1),b6 (k+1),b7 (k+1)]) aD ⟨trivial,⟨by simp[go_sem],trivial⟩,by simp[go_sem,ke,bS.low,bC],by simp[go_sem,ke,bS.low,bC],ka,DX _,trivial⟩
   ·have ka:bG 13 ρ.tm:=by rw[ht];simp[go_sem,Cz,CH]
    have aD:=ph (m:=13) (by decide) (hs (k+1));exact qO (σ:=[b0 (k+1),b1 (k+1),b2 (k+1),b3 (k+1),b4 (k+1),b5 (k+1),b6 (k+1),b7 (k+1)]) aD ⟨sC _,⟨by simp[go_sem],trivial⟩,by simp[go_sem,ke,bS.low,bC],by simp[go_sem,ke,bS.low,bC],ka,trivial⟩
   ·have:=mH ts;omega
   ·have Dh:IntKind.i64.wrap (d+1)=d+1:=dt (by omega);have bx:=mH ts;have htn:t.size<999999999:=eM;have hb:ts.length-1-i<ts.length:=by omega
    have Jd:ts.drop (ts.length-(i+1))=ts[ts.length-1-i] :: ts.drop (ts.length-i):=by
     rw[show ts.length-(i+1)=ts.length-1-i by omega,ai hb,show ts.length-1-i+1=ts.length-i by omega]
    generalize ts[ts.length-1-i]=u at *
    have MD:ah.agg [.int .i64 u.head,.ps 2 (u.args.map Tm.aH),.int .i64 (d+1)]=l5 (d+1,u):=rfl;have Bg:bG 13 ρ.tm:=by rw[ht];simp[go_sem,Cz,CH]
    have yx:∀π:Nat->Nat,(∀b,b<13->π b=b)->eo π (.loop (ρ.at .ready))=.loop (ρ.at .ready):=λπ HB=>CL π 13 HB _ Bg;cases i with
    | zero =>
     have oB:List.take r.length (r.reverse.map l5++l5 (d,Tm.mk hd ts):: junk)=r.reverse.map l5:=by rw[List.take_left' (by simp)]
     refine ak.m8 1000 ht xL kU tv (by rw[Az];rfl) rfl ?_
     clear_value S
     rw[Az];simp only[go_sem,dO,ae,Dh,eE,aK,forall_eq,wS,oB]
     (repeat((with_reducible refine And.intro ?_ ?_);·omega))
     rw[wB];have yz:∀b,b<13->pi [(13,16),(16,13)] b=b:=by decide
     have gE : [b0 (k+1),b1 (k+1),b2 (k+1),b3 (k+1),b4 (k+1),b5 (k+1),b6 (k+1),b7 (k+1),none,some (.var [.os 16 0 (r.length+1) 3]),some (.var [.int .i64 hd,.ps 2 (ts.map Tm.aH),.int .i64 d]),some (.var [.ps 2 (ts.map Tm.aH)]),some (.loop (ρ.at .ready)),none,none,none,some (.row (r.reverse.map l5++[l5 (d+1,u)]) 0)]=([b0 (k+1),b1 (k+1),b2 (k+1),b3 (k+1),b4 (k+1),b5 (k+1),b6 (k+1),b7 (k+1)]++[none,some (.var [.os 16 0 (r.length+1) 3]),some (.var [.int .i64 hd,.ps 2 (ts.map Tm.aH),.int .i64 d]),some (.var [.ps 2 (ts.map Tm.aH)]),some (.loop (ρ.at .ready)),none,none,none,some (.row (r.reverse.map l5++[l5 (d+1,u)]) 0)]:av):=rfl;have wT:bH 17 [b0 (k+1),b1 (k+1),b2 (k+1),b3 (k+1),b4 (k+1),b5 (k+1),b6 (k+1),b7 (k+1),none,some (.var [.os 16 0 (r.length+1) 3]),some (.var [.int .i64 hd,.ps 2 (ts.map Tm.aH),.int .i64 d]),some (.var [.ps 2 (ts.map Tm.aH)]),some (.loop (ρ.at .ready)),none,none,none,some (.row (r.reverse.map l5++[l5 (d+1,u)]) 0)]:=by
      rw[gE];exact qO (ph (bV 8 9) (hs (k+1))) ⟨trivial,⟨cQ 16,trivial⟩,by simp[go_sem,ke,bS.low,bC],by simp[go_sem,ke,bS.low,bC],iD (bV 13 4) Bg,trivial,trivial,trivial,uQ (DX _) ⟨Il _,trivial⟩,trivial⟩
     refine⟨rfl,[b0 (k+1),b1 (k+1),b2 (k+1),b3 (k+1),b4 (k+1),b5 (k+1),b6 (k+1),b7 (k+1),none,some (.var [.os 16 0 (r.length+1) 3]),some (.var [.int .i64 hd,.ps 2 (ts.map Tm.aH),.int .i64 d]),some (.var [.ps 2 (ts.map Tm.aH)]),some (.loop (ρ.at .ready)),none,none,none,some (.row (r.reverse.map l5++[l5 (d+1,u)]) 0)],?_,?_,wT,rfl,?_,wT,pi [(13,16),(16,13)],yz,?_,?_⟩
     ·simp[go_sem,MD]
     ·exact bV 14 3
     ·exact bV 14 3
     ·exact Lv (lo:=0) rfl
     ·rw[I2];refine Ct (B:=[b0 (k+1),b1 (k+1),b2 (k+1),b3 (k+1),b4 (k+1),b5 (k+1),b6 (k+1),b7 (k+1)]) (hs (k+1)) (λb hb=>yz b (by simp at hb;omega)) ?_;simp only[go_sem,yx _ yz,Nat.reduceEqDiff,if_true,if_false,Nat.reduceAdd,aq,aF,and_true,true_and,bT (bC _),bT (DX _)];refine⟨(yx _ yz).symm,?_⟩;rw[show ts.length-1=ts.length-(0+1) from rfl,Jd]
      simp
    | succ i =>
     have JB:(((ts.drop (ts.length-(i+1))).map (λu=>(d+1,u))++r).reverse.map l5).length=r.length+(i+1):=by simp;omega
     have R4:List.take (r.length+(i+1)) (((ts.drop (ts.length-(i+1))).map (λu=>(d+1,u))++r).reverse.map l5)=((ts.drop (ts.length-(i+1))).map (λu=>(d+1,u))++r).reverse.map l5:=aO (by rw[JB];exact ae _);refine ak.m8 1000 ht xL kU tv (by rw[I2];rfl) rfl ?_
     clear_value S
     rw[I2];simp only[go_sem,dO,ae,Dh,eE,aK,forall_eq,JB,R4]
     (repeat((with_reducible refine And.intro ?_ ?_);·omega))
     rw[wB];have yz:∀b,b<13->pi [(13,16),(16,13)] b=b:=by decide
     have gE : [b0 (k+1),b1 (k+1),b2 (k+1),b3 (k+1),b4 (k+1),b5 (k+1),b6 (k+1),b7 (k+1),none,some (.var [.os 16 0 (r.length+(i+1)+1) 3]),some (.var [.int .i64 hd,.ps 2 (ts.map Tm.aH),.int .i64 d]),some (.var [.ps 2 (ts.map Tm.aH)]),some (.loop (ρ.at .ready)),none,none,none,some (.row (((ts.drop (ts.length-(i+1))).map (λu=>(d+1,u))++r).reverse.map l5++[l5 (d+1,u)]) 0)]=([b0 (k+1),b1 (k+1),b2 (k+1),b3 (k+1),b4 (k+1),b5 (k+1),b6 (k+1),b7 (k+1)]++[none,some (.var [.os 16 0 (r.length+(i+1)+1) 3]),some (.var [.int .i64 hd,.ps 2 (ts.map Tm.aH),.int .i64 d]),some (.var [.ps 2 (ts.map Tm.aH)]),some (.loop (ρ.at .ready)),none,none,none,some (.row (((ts.drop (ts.length-(i+1))).map (λu=>(d+1,u))++r).reverse.map l5++[l5 (d+1,u)]) 0)]:av):=rfl;have wT:bH 17 [b0 (k+1),b1 (k+1),b2 (k+1),b3 (k+1),b4 (k+1),b5 (k+1),b6 (k+1),b7 (k+1),none,some (.var [.os 16 0 (r.length+(i+1)+1) 3]),some (.var [.int .i64 hd,.ps 2 (ts.map Tm.aH),.int .i64 d]),some (.var [.ps 2 (ts.map Tm.aH)]),some (.loop (ρ.at .ready)),none,none,none,some (.row (((ts.drop (ts.length-(i+1))).map (λu=>(d+1,u))++r).reverse.map l5++[l5 (d+1,u)]) 0)]:=by
      rw[gE];exact qO (ph (bV 8 9) (hs (k+1))) ⟨trivial,⟨cQ 16,trivial⟩,by simp[go_sem,ke,bS.low,bC],by simp[go_sem,ke,bS.low,bC],iD (bV 13 4) Bg,trivial,trivial,trivial,uQ (DX _) ⟨Il _,trivial⟩,trivial⟩
     refine⟨rfl,[b0 (k+1),b1 (k+1),b2 (k+1),b3 (k+1),b4 (k+1),b5 (k+1),b6 (k+1),b7 (k+1),none,some (.var [.os 16 0 (r.length+(i+1)+1) 3]),some (.var [.int .i64 hd,.ps 2 (ts.map Tm.aH),.int .i64 d]),some (.var [.ps 2 (ts.map Tm.aH)]),some (.loop (ρ.at .ready)),none,none,none,some (.row (((ts.drop (ts.length-(i+1))).map (λu=>(d+1,u))++r).reverse.map l5++[l5 (d+1,u)]) 0)],?_,?_,wT,rfl,?_,wT,pi [(13,16),(16,13)],yz,?_,?_⟩
     ·simp[go_sem,MD]
     ·exact bV 14 3
     ·exact bV 14 3
     ·exact Lv (lo:=0) rfl
     ·rw[I2];refine Ct (B:=[b0 (k+1),b1 (k+1),b2 (k+1),b3 (k+1),b4 (k+1),b5 (k+1),b6 (k+1),b7 (k+1)]) (hs (k+1)) (λb hb=>yz b (by simp at hb;omega)) ?_;simp only[go_sem,yx _ yz,Nat.reduceEqDiff,if_true,if_false,Nat.reduceAdd,aq,aF,and_true,true_and,bT (bC _),bT (DX _)];refine⟨by rw[fY],(yx _ yz).symm,?_⟩;rw[Jd];simp
   rintro r' jO rfl;rw[E3];refine⟨.ready,?_,?_⟩
   ·cases ts.length<;>rfl
   rw[G0];refine aC.g ?_;have Q8:∀z∈ts.map (λu=>(d+1,u))++r,ri (t.size+1) z:=by
    intro z hz;rcases a_.1 hz with hz|hz
    ·obtain⟨u,hu,rfl⟩:=cN.1 hz;obtain⟨j,hj,rfl⟩:=j6.1 hu;have:=sn ts j hj;simp only[ri];omega
    ·exact h3 z (by simp[hz])
   cases hN:ts.length with
   |zero =>
    obtain rfl:=dT.1 hN;rw[Az];simp only[go_sem];refine⟨⟨(r,l5 (d,Tm.mk hd []):: junk,k+1),by simp only;omega,by simp only;rw[hdr];rfl,λz hz=>h3 z (by simp at hz;simp[hz]),⟨Il _,h4⟩⟩,[],eL (O9 _ _) ⟨?_,?_,?_,?_⟩,by simp only;omega⟩
    ·have pJ:=sP (pi []) _ (λ_ _=>rfl) [y] ⟨oU,trivial⟩;simp only[eC,gG,and_true]at pJ;simp only[go_sem,pJ]
    ·refine Ct (B:=[b0 (k+1),b1 (k+1),b2 (k+1),b3 (k+1),b4 (k+1),b5 (k+1),b6 (k+1),b7 (k+1)]) (hs (k+1)) (λ_ _=>rfl) ?_;simp only[go_sem,bT (sC 0)]
    ·have pJ:=oJ (m:=10) (by omega) oU;simp only[go_sem,pJ];omega
    ·refine qO (σ:=[b0 (k+1),b1 (k+1),b2 (k+1),b3 (k+1),b4 (k+1),b5 (k+1),b6 (k+1),b7 (k+1)]) (ph (bV 8 2) (hs (k+1))) ?_;exact⟨sC _,⟨by simp[go_sem],trivial⟩,trivial⟩
   |succ N =>
    rw[I2];have hd0:ts.drop (ts.length-(N+1))=ts:=by rw[hN,dF,dQ]
    simp only[go_sem,hd0];refine⟨⟨(ts.map (λu=>(d+1,u))++r,[],k+1),by simp only;omega,hdr,Q8,trivial⟩,[(8,13),(13,8)],eL (Ysw zV rfl) ⟨?_,?_,?_,?_⟩,by simp only;omega⟩
    ·have pJ:=sP (pi [(8,13),(13,8)]) 8 (by decide) [y] ⟨oJ zV oU,trivial⟩;simp only[eC,gG,and_true]at pJ;simp only[go_sem,pJ];rw[if_neg (by omega),if_neg (by omega)]
    ·refine Ct (B:=[b0 (k+1),b1 (k+1),b2 (k+1),b3 (k+1),b4 (k+1),b5 (k+1),b6 (k+1),b7 (k+1)]) (hs (k+1)) (λb hb=>by simp only[aq,aF]at hb;revert b;decide) ?_;simp only[go_sem,bT (DX _),bf];simp only[aA,ao,hN];rw[Nat.add_comm]
    ·have pJ:=oJ (m:=10) (by omega) oU;simp only[go_sem,pJ];omega
    ·refine qO (σ:=[b0 (k+1),b1 (k+1),b2 (k+1),b3 (k+1),b4 (k+1),b5 (k+1),b6 (k+1),b7 (k+1)]) (ph (bV 8 2) (hs (k+1))) ?_;exact⟨uQ (DX _) trivial,⟨by simp[go_sem],trivial⟩,trivial⟩
theorem EL (t:Tm) (eM:t.size<999999999):az Tryz.prog 90 [t.aH] (.int .i64 t.check):=by
 refine az.begin (rs:=[.tmp 2]) (m:=52) 1000 Tryz.func90 rfl rfl rfl (by decide) trivial ?_;simp only[go_sem,cq,ae];rw[<-cq];refine(Zl t _ ?_).mono ?_
 ·simp[go_sem,bC]
 rintro _ _ ⟨rfl,rfl⟩;refine aC.g ?_;simp only[go_sem];refine aC.rangeFunc (dV 53 [(3,.ptr 1 0),(4,.ptr 2 0),(5,.ptr 3 0)]) ?_ ?_ (λρ ht xL kU tv=>?_)
 ·simp only[go_sem]
 ·exact λb hb=>by cases hb
 simp only[go_sem];have B_:=Iw t 1;have Q8:=Ti t 1 0;have tA:=YL t 1;have Z9:=Yi5 t 1;have ka:bG 6 ρ.tm:=by rw[ht];simp[go_sem,Cz,CH]
 have gE:∀k,bH 8 [some (.var [.int .i64 t.head,.ps 2 (t.args.map Tm.aH)]),some (.var [.int .i64 (k:Nat)]),some (.var [.int .i64 (gO ((t.pre 1).take k) 0)]),some (.var [.bool (((t.pre 1).take k).any λx=>!kl x.2)]),some (.var [.int .i64 t.head,.ps 2 (t.args.map Tm.aH)]),some (.loop (ρ.at .ready)),none,none] :=
  λk=>⟨⟨trivial,bC _,trivial⟩,⟨trivial,trivial⟩,⟨trivial,trivial⟩,⟨trivial,trivial⟩,⟨trivial,bC _,trivial⟩,iD (by decide) ka,trivial,trivial,trivial⟩
 refine(XL t eM 6 (by decide) _ (λ_=>some (.var [.int .i64 t.head,.ps 2 (t.args.map Tm.aH)])) (λk=>some (.var [.int .i64 (k:Nat)])) (λk=>some (.var [.int .i64 (gO ((t.pre 1).take k) 0)]))
  (λk=>some (.var [.bool (((t.pre 1).take k).any λx=>!kl x.2)])) (λ_=>some (.var [.int .i64 t.head,.ps 2 (t.args.map Tm.aH)])) (λ_=>some (.loop (ρ.at .ready))) (λ_=>none) (λ_=>none) 4 (.ni 5) rfl rfl rfl (by decide) gE ?_ (cQ 5) (λk hk=>?_)).mono ?_
 ·exact⟨⟨trivial,bC _,trivial⟩,⟨trivial,trivial⟩,⟨trivial,trivial⟩,⟨trivial,trivial⟩,⟨trivial,bC _,trivial⟩,ka,trivial⟩
 ·have oB:=Yq hk;have hbk:=Z9 _ (ay hk);have Mz : 0<=gO ((t.pre 1).take k) 0/\gO ((t.pre 1).take k) 0<2 ^ 62:=Vl _ 0 (by omega) (by omega) λx hx=>by have:=Z9 x (np hx);omega
  have yy:gO ((t.pre 1).take (k+1)) 0=max (gO ((t.pre 1).take k) 0) (t.pre 1)[k].1:=by rw[oB,VH];rfl
  have uE:((t.pre 1).take (k+1)).any (λx=>!kl x.2)=(((t.pre 1).take k).any (λx=>!kl x.2) || !kl (t.pre 1)[k].2):=by rw[oB,rP];simp
  refine ak.stay rfl (gE (k+1)) ?_;rw[yy,uE];generalize (t.pre 1)[k]=x at *
  generalize gO ((t.pre 1).take k) 0=mx at *
  generalize ((t.pre 1).take k).any (λx=>!kl x.2)=wr at *
  obtain⟨d,u⟩:=x;simp only at hbk;have sE:(if mx<d then d else mx)=max mx d:=by omega
  refine ak.m8 1000 ht xL kU tv rfl rfl ?_;simp only[go_sem,dO,ae,ao];have xK : -9223372036854775808<=(k:Int)+1/\(k:Int)+1<=9223372036854775807:=by omega
  have vI:((k+1:Nat):Int)=(k:Int)+1:=rfl;have xN:∀X,bH 8 [some (.var [.int .i64 t.head,.ps 2 (t.args.map Tm.aH)]),some (.var [.int .i64 (k+1:Nat)]),some (.var [.int .i64 (max mx d)]),some (.var [.bool X]),some (.var [.int .i64 t.head,.ps 2 (t.args.map Tm.aH)]),some (.loop (ρ.at .ready)),none,none]:=λX=>⟨⟨trivial,bC _,trivial⟩,⟨trivial,trivial⟩,⟨trivial,trivial⟩,⟨trivial,trivial⟩,⟨trivial,bC _,trivial⟩,iD (by decide) ka,trivial,trivial,trivial⟩;refine aC.g ?_;refine aC.draw [.no,.no,⟨none,[],[1]⟩,⟨none,[],[1]⟩,⟨none,[],[1]⟩,⟨none,[1],[]⟩,⟨none,[2],[]⟩] 9 9 mixed rfl rfl (by decide) ?_;simp only[go_sem,cM,sE];refine aC.g ?_;have B6:kl u = !(u.head<0&&decide ((0:Int)<u.args.length)||u.head < -256||decide (1023<u.head)||decide ((8:Int)<u.args.length)):=by
   simp only[kl,Int.natCast_pos,show(8:Int)<u.args.length↔8<u.args.length by omega]
  cases wr with
  |true =>
   simp only[go_sem,sE,ao,dt xK];rw[wB];refine⟨rfl,[some (.var [.int .i64 t.head,.ps 2 (t.args.map Tm.aH)]),some (.var [.int .i64 (k+1:Nat)]),some (.var [.int .i64 (max mx d)]),some (.var [.bool true]),some (.var [.int .i64 t.head,.ps 2 (t.args.map Tm.aH)]),some (.loop (ρ.at .ready)),none,none],by simp[go_sem,vI],ae _,xN _,rfl,?_⟩;rfl
  | false =>
   by_cases d1:u.head<0
   ·by_cases d2:(0:Int)<u.args.length
    ·simp only[go_sem,sE,d1,d2,ao,dt xK];rw[wB];refine⟨rfl,[some (.var [.int .i64 t.head,.ps 2 (t.args.map Tm.aH)]),some (.var [.int .i64 (k+1:Nat)]),some (.var [.int .i64 (max mx d)]),some (.var [.bool true]),some (.var [.int .i64 t.head,.ps 2 (t.args.map Tm.aH)]),some (.loop (ρ.at .ready)),none,none],by simp[go_sem,vI],ae _,xN _,rfl,?_⟩;rw[B6,decide_eq_true d1,decide_eq_true d2];rfl
    by_cases d3:u.head < -256
    ·simp only[go_sem,sE,d1,d2,d3,ao,dt xK];rw[wB];refine⟨rfl,[some (.var [.int .i64 t.head,.ps 2 (t.args.map Tm.aH)]),some (.var [.int .i64 (k+1:Nat)]),some (.var [.int .i64 (max mx d)]),some (.var [.bool true]),some (.var [.int .i64 t.head,.ps 2 (t.args.map Tm.aH)]),some (.loop (ρ.at .ready)),none,none],by simp[go_sem,vI],ae _,xN _,rfl,?_⟩;rw[B6,decide_eq_true d1,decide_eq_false d2,decide_eq_true d3];rfl
    have d4:¬1023<u.head:=by omega
    have d5:¬(8:Int)<u.args.length:=by omega
    simp only[go_sem,sE,d1,d2,d3,d4,d5,ao,dt xK];rw[wB];refine⟨rfl,[some (.var [.int .i64 t.head,.ps 2 (t.args.map Tm.aH)]),some (.var [.int .i64 (k+1:Nat)]),some (.var [.int .i64 (max mx d)]),some (.var [.bool false]),some (.var [.int .i64 t.head,.ps 2 (t.args.map Tm.aH)]),some (.loop (ρ.at .ready)),none,none],by simp[go_sem,vI],ae _,xN _,rfl,?_⟩;rw[B6,decide_eq_true d1,decide_eq_false d2,decide_eq_false d3,decide_eq_false d4,decide_eq_false d5];rfl
   have d3:¬u.head < -256:=by omega
   by_cases d4 : 1023<u.head
   ·simp only[go_sem,sE,d1,d3,d4,ao,dt xK];rw[wB];refine⟨rfl,[some (.var [.int .i64 t.head,.ps 2 (t.args.map Tm.aH)]),some (.var [.int .i64 (k+1:Nat)]),some (.var [.int .i64 (max mx d)]),some (.var [.bool true]),some (.var [.int .i64 t.head,.ps 2 (t.args.map Tm.aH)]),some (.loop (ρ.at .ready)),none,none],by simp[go_sem,vI],ae _,xN _,rfl,?_⟩;rw[B6,decide_eq_false d1,decide_eq_false d3,decide_eq_true d4];rfl
   by_cases d5:(8:Int)<u.args.length
   ·simp only[go_sem,sE,d1,d3,d4,d5,ao,dt xK];rw[wB];refine⟨rfl,[some (.var [.int .i64 t.head,.ps 2 (t.args.map Tm.aH)]),some (.var [.int .i64 (k+1:Nat)]),some (.var [.int .i64 (max mx d)]),some (.var [.bool true]),some (.var [.int .i64 t.head,.ps 2 (t.args.map Tm.aH)]),some (.loop (ρ.at .ready)),none,none],by simp[go_sem,vI],ae _,xN _,rfl,?_⟩;rw[B6,decide_eq_false d1,decide_eq_false d3,decide_eq_false d4,decide_eq_true d5];rfl
   simp only[go_sem,sE,d1,d3,d4,d5,ao,dt xK];rw[wB];refine⟨rfl,[some (.var [.int .i64 t.head,.ps 2 (t.args.map Tm.aH)]),some (.var [.int .i64 (k+1:Nat)]),some (.var [.int .i64 (max mx d)]),some (.var [.bool false]),some (.var [.int .i64 t.head,.ps 2 (t.args.map Tm.aH)]),some (.loop (ρ.at .ready)),none,none],by simp[go_sem,vI],ae _,xN _,rfl,?_⟩;rw[B6,decide_eq_false d1,decide_eq_false d3,decide_eq_false d4,decide_eq_false d5];rfl
 rintro r' jO rfl;rw[E3];refine⟨.ready,rfl,?_⟩;rw[G0];rw[<-B_,bQ,Q8,tA,B_];refine aC.g ?_;simp only[go_sem];have hdd : 1<=t.depth:=by cases t;simp only[Tm.depth];omega
 unfold Tm.check;refine⟨λh=>by rw[if_pos (by omega)],λh=>⟨λh'=>by rw[if_neg (by omega),if_pos (by omega)],λh'=>⟨λhg=>?_,λhg=>?_⟩⟩⟩<;>rw[if_neg (by omega),if_neg (by omega)]
 ·rw[if_neg (by simpa using hg)]
 ·rw[if_pos (by simpa using hg)]
theorem Zxo (l:List Int) (v:Int) (hl:l.length<2 ^ 62):az Tryz.prog 143 [.ps 1 (ints l),.int .i64 v] (.int .i64 (eF (λx=>decide (v=x)) l 0)):=by
 refine az.begin (rs:=[.tmp 4]) (m:=17) 1000 Tryz.func143 rfl rfl rfl (by decide) trivial ?_;simp only[go_sem];refine aC.cA (ι:={i:Nat // i<=l.length/\eF (λx=>decide (v=x)) (l.drop i) i=eF (λx=>decide (v=x)) l 0}) 1000 (λi=>dV 19 [(0,.ps 1 (ints l)),(1,.int .i64 v),(7,.int .i64 l.length),(8,.int .i64 i.1)]) (λ_=>[]) (λi=>l.length-i.1) ⟨0,by simp⟩ ?_ (λ_=>aj _) ?_
 ·simp only[go_sem,cY,ja,bP]
 ·rintro ⟨i,hi,aD⟩;by_cases bx:(i:Int)<l.length
  ·have aL:i<l.length:=by omega
   have hd:eF (λx=>decide (v=x)) (l.drop i) i=if decide (v=l[i])=true then (i:Int) else eF (λx=>decide (v=x)) (l.drop (i+1)) ((i:Int)+1):=by
    rw[ai aL];rfl
   by_cases e:v=l[i]
   ·rw[hd,if_pos (by simp[<-e])]at aD;simp only[go_sem,bx,ja,bh,vu aL,<-e]
    (repeat((with_reducible refine And.intro ?_ ?_);·omega))
    refine aC.g ?_;simp only[go_sem];rw[aD]
   ·rw[hd,if_neg (by simp[e])]at aD;simp only[go_sem,bx,ja,bh,vu aL,e]
    (repeat((with_reducible refine And.intro ?_ ?_);·omega))
    refine⟨⟨i+1,aL,aD⟩,?_,by simp only;omega⟩;simp only[go_sem,cY];rw[dt (by omega)];trivial
  ·have dm:i=l.length:=by omega
   subst dm;rw[aJ]at aD;simp only[go_sem,bx];refine aC.g ?_;simp only[go_sem,<-aD];trivial
theorem Ku (l:List Int)(v:Int)(hl:l.length<2 ^ 62):az Tryz.prog 110 [.ps 1 (ints l),.int .i64 v] (.bool (decide (v∈l))):=by
 refine az.begin (rs:=[.tmp 4]) (m:=7) 1000 Tryz.func110 rfl rfl rfl (by decide) trivial ?_;simp only[go_sem];refine ak.bm [] (Zxo l v hl) (bL _ _ _) (by simp[go_sem,cY]) ?_;simp only[bj,bA,bz,if_true];refine aC.g ?_;simp only[go_sem,ET _ l 0 (nk 0)];congr 1;rw[eK];simp
theorem YY (t:Tm) (AL:t.fit) (eM:t.size<999999999):az Tryz.prog 162 [t.aH] (.ps 1 (ints t.vars)):=by
 refine az.begin (rs:=[.tmp 2]) (m:=26) 1000 Tryz.func162 rfl rfl rfl (by decide) (cY _) ?_;simp only[go_sem,cq,ae];rw[<-cq];refine(Zl t _ ?_).mono ?_
 ·simp[go_sem,bC]
 rintro _ _ ⟨rfl,rfl⟩;refine aC.g ?_;simp only[go_sem];refine aC.rangeFunc (dV 27 [(3,.ptr 1 0)]) ?_ ?_ (λρ ht xL kU tv=>?_)
 ·simp only[go_sem]
 ·exact λb hb=>by cases hb
 simp only[go_sem];have B_:=Iw t 1;have R8:=Yja t 1;have ka:bG 4 ρ.tm:=by rw[ht];simp[go_sem,Cz,CH]
 have gE:∀l:List Int,bH 8 [some (.var [.int .i64 t.head,.ps 2 (t.args.map Tm.aH)]),some (.var [eR 4 1 (ints l)]),some (.var [.int .i64 t.head,.ps 2 (t.args.map Tm.aH)]),some (.loop (ρ.at .ready)),cX (ints l),none,none,none] :=
  λl=>⟨⟨trivial,bC _,trivial⟩,⟨um (by decide) 1 _,trivial⟩,⟨trivial,bC _,trivial⟩,iD (by decide) ka,BQ _ (cY _),trivial,trivial,trivial,trivial⟩
 refine(XL t eM 4 (by decide) _ (λ_=>some (.var [.int .i64 t.head,.ps 2 (t.args.map Tm.aH)])) (λk=>some (.var [eR 4 1 (ints (ld ((t.pre 1).take k) []))])) (λ_=>some (.var [.int .i64 t.head,.ps 2 (t.args.map Tm.aH)])) (λ_=>some (.loop (ρ.at .ready)))
  (λk=>cX (ints (ld ((t.pre 1).take k) []))) (λ_=>none) (λ_=>none) (λ_=>none) 2 (.ni 3) rfl rfl rfl (by decide) (λk=>gE _) ?_ (cQ 3) (λk hk=>?_)).mono ?_
 ·exact⟨⟨trivial,bC _,trivial⟩,⟨trivial,trivial⟩,⟨trivial,bC _,trivial⟩,ka,trivial⟩
 ·have xI:ld ((t.pre 1).take (k+1)) []=wC (ld ((t.pre 1).take k) []) (t.pre 1)[k]:=by rw[Yq hk,Xz];rfl
  have hlen:=Yg1 ((t.pre 1).take k) [];rw[bN]at hlen;have Ed:(t.pre 1)[k].2.fit:=TF t AL 1 _ (ay hk);rw[xI];generalize (t.pre 1)[k]=x at *
  generalize ld ((t.pre 1).take k) []=o at *
  obtain⟨d,u⟩:=x;simp only at Ed;have Ea : -9223372036854775808<=u.head/\u.head<=9223372036854775807:=by obtain⟨h,ts⟩:=u;exact Ed.1
  have wi:IntKind.i64.wrap (-1-u.head) = -1-u.head:=dt (by omega);have B9:o.length<999999999:=by simp only[aF]at hlen;omega
  by_cases c1:u.head<0
  ·have B8 : 0<=-1-u.head:=by omega
   have wN:wC o (d,u)=jK o (-1-u.head):=if_pos c1;rw[wN];generalize hv : -1-u.head=v at *
   by_cases c2:v∈o
   ·have hn:jK o v=o:=if_pos c2;rw[hn];refine ak.stay rfl (gE _) ?_;refine ak.m8 1000 ht xL kU tv rfl rfl ?_;simp only[go_sem,dO,ae,ao,hv,wi,B8];refine ak.bm [4] (Ku o v (by omega)) ?_ (by simp[go_sem,cY]) ?_
    ·simp only[go_sem,k_,lb,nI]
    simp only[bj,bA,bz,if_true];refine aC.g ?_;simp only[go_sem,c2];rw[wB];exact⟨rfl,[some (.var [.int .i64 t.head,.ps 2 (t.args.map Tm.aH)]),some (.var [eR 4 1 (ints o)]),some (.var [.int .i64 t.head,.ps 2 (t.args.map Tm.aH)]),some (.loop (ρ.at .ready)),cX (ints o),none,none,none],by simp[go_sem],ae _,gE _,rfl,rfl⟩
   ·have hn:jK o v=o++[v]:=if_neg c2;have yz:∀b,b<4->pi [(4,10),(10,4)] b=b:=by decide
    rw[hn];refine ak.move [(4,10),(10,4)] (S':=[some (.var [.int .i64 t.head,.ps 2 (t.args.map Tm.aH)]),some (.var [.os 10 0 (o.length+1) 1]),some (.var [.int .i64 t.head,.ps 2 (t.args.map Tm.aH)]),some (.loop (ρ.at .ready)),none,none,none,none,none,none,some (.row (ints o++[.int .i64 v]) 0)]) ?_ ?_ rfl ?_ ?_
    ·exact bV 8 3
    ·exact⟨⟨trivial,bC _,trivial⟩,⟨cQ 10,trivial⟩,⟨trivial,bC _,trivial⟩,iD (bV 4 7) ka,trivial,trivial,trivial,trivial,trivial,trivial,uQ (cY _) ⟨trivial,trivial⟩,trivial⟩
    ·have uW:=CL (pi [(4,10),(10,4)]) 4 yz (.loop (ρ.at .ready)) ka;simp only[yV,GX,GO,KV,KL,Oi,uW];simp[go_sem,bT (bC _),bT (cY _),bT (uQ (cY o) (show bG 0 [ah.int .i64 v] from⟨trivial,trivial⟩)),ja]
    refine ak.m8 1000 ht xL kU tv rfl rfl ?_;simp only[go_sem,dO,ae,ao,hv,wi,B8];refine ak.bm [4] (Ku o v (by omega)) ?_ (by simp[go_sem,cY]) ?_
    ·simp only[go_sem,k_,lb,nI]
    simp only[bj,bA,bz,if_true];refine aC.g ?_;simp only[go_sem,c2,eE,aK,forall_eq,bF,qg,ja];refine⟨by omega,?_⟩;rw[wB];exact⟨rfl,[some (.var [.int .i64 t.head,.ps 2 (t.args.map Tm.aH)]),some (.var [.os 10 0 (o.length+1) 1]),some (.var [.int .i64 t.head,.ps 2 (t.args.map Tm.aH)]),some (.loop (ρ.at .ready)),none,none,none,none,none,none,some (.row (ints o++[.int .i64 v]) 0)],by simp[go_sem],bV 8 3,⟨⟨trivial,bC _,trivial⟩,⟨cQ 10,trivial⟩,⟨trivial,bC _,trivial⟩,iD (bV 4 7) ka,trivial,trivial,trivial,trivial,trivial,trivial,uQ (cY _) (show bG 11 [ah.int .i64 v] from⟨trivial,trivial⟩),trivial⟩,rfl,rfl⟩
  ·have hn:wC o (d,u)=o:=if_neg c1;rw[hn];refine ak.stay rfl (gE _) ?_;refine ak.m8 1000 ht xL kU tv rfl rfl ?_;have B8:¬0<=-1-u.head:=by omega
   simp only[go_sem,dO,ae,ao,wi,B8];rw[wB];exact⟨rfl,[some (.var [.int .i64 t.head,.ps 2 (t.args.map Tm.aH)]),some (.var [eR 4 1 (ints o)]),some (.var [.int .i64 t.head,.ps 2 (t.args.map Tm.aH)]),some (.loop (ρ.at .ready)),cX (ints o),none,none,none],by simp[go_sem],ae _,gE _,rfl,rfl⟩
 rintro r' jO rfl;rw[E3];refine⟨.ready,rfl,?_⟩;rw[G0];rw[<-B_,bQ,R8];refine aC.g ?_;simp only[go_sem];rw[nI rfl rfl];trivial
end Go.Proofs
namespace Go.Proofs
open Go Go.dq
mutual
def Tm.walk {ι:Type}(step : ι->Tm->Bool->ι):Tm->Bool->ι->ι
 |.mk h ts,top,x=>Tm.walks step ts (step x (.mk h ts) top)
def Tm.walks {ι:Type}(step : ι->Tm->Bool->ι):List Tm->ι->ι
 |[],x=>x
 |t :: ts,x=>Tm.walks step ts (t.walk step false x)
end
theorem Wf {ι:Type} (step : ι->Tm->Bool->ι):∀(ts:List Tm) (i:Nat) (hi:i<ts.length) (x : ι),Tm.walks step (ts.take (i+1)) x=ts[i].walk step false (Tm.walks step (ts.take i) x)
 |t :: ts,0,_,x=>by simp[Tm.walks]
 |t :: ts,i+1,hi,x=>by
  simp only[cW,Tm.walks,df];exact Wf step ts i (by simpa using hi) _
def lV (g:List Sy)(x:Bool×Bool)(t:Tm)(top:Bool):Bool×Bool :=
 if t.head<0 then x else if (g.length:Int)<=t.head\/¬(t.args.length:Int)=(lN g t.head).arity then (true,x.2) else if (lN g t.head).cy=true/\top=false then (x.1,true) else x
def kL (g:List Sy)(t:Tm):Bool:=decide (t.head<0)||(!(decide ((g.length:Int)<=t.head))&&decide ((t.args.length:Int)=(lN g t.head).arity))
theorem Zv9 (g:List Sy)(h:Int)(ts:List Tm):kL g (.mk h ts)=(decide (h<0)||(!(decide ((g.length:Int)<=h))&&decide ((ts.length:Int)=(lN g h).arity))):=rfl
theorem Yw4 (g:List Sy) (x:Bool×Bool) (t:Tm) (top:Bool):(lV g x t top).1=(x.1 || !kL g t):=by
 unfold lV kL;by_cases c1:t.head<0
 ·simp[c1]
 ·by_cases c2:(g.length:Int)<=t.head
  ·simp[c1,c2]
  ·by_cases c3:(t.args.length:Int)=(lN g t.head).arity
   ·rw[if_neg c1,if_neg (by simp[c2,c3])];split<;>simp[c1,c2,c3]
   ·simp[c1,c2,c3]
theorem Te {h:Int}{ts:List Tm}(hg:(Tm.mk h ts).good=true)(c:h<0):ts=[]:=by
 simp only[Tm.good,aG,bX,cZ,dM,decide_eq_false_iff_not]at hg;rcases hg.1.1.1.1 with h'|h'
 ·exact absurd c h'
 ·exact dT.1 (by omega)
theorem XK {h:Int}{ts:List Tm}(hg:(Tm.mk h ts).good=true):Tm.fy ts=true:=by
 simp only[Tm.good,aG]at hg;exact hg.2
mutual
theorem U8 (g:List Sy):∀(t:Tm) (top:Bool) (x:Bool×Bool),t.good=true->(t.walk (lV g) top x).1=(x.1 || !t.known g)
 |.mk h ts,top,x,hg=>by
  simp only[Tm.walk,Tm.known];rw[Up g ts _ (XK hg),Yw4,Zv9];by_cases c1:h<0
  ·have:=Te hg c1;subst this;simp[c1,Tm.e8]
  ·have e1:decide (h<0)=false:=decide_eq_false c1;rw[e1];simp only[cD,Bool.not_and,pP]
theorem Up (g:List Sy):∀(ts:List Tm) (x:Bool×Bool),Tm.fy ts=true->(Tm.walks (lV g) ts x).1=(x.1 || !Tm.e8 g ts)
 |[],x,_=>by simp[Tm.walks,Tm.e8]
 |t :: ts,x,hg=>by
  simp only[Tm.fy,aG]at hg;simp only[Tm.walks,Tm.e8];rw[Up g ts _ hg.2,U8 g t _ _ hg.1,Bool.not_and,pP]
end
theorem Yz9 (g:List Sy) (x:Bool×Bool) (t:Tm) (top:Bool) (hk:kL g t=true):(lV g x t top).2=(x.2||(!top&&t.cy g)):=by
 unfold lV;unfold kL at hk;by_cases c1:t.head<0
 ·simp[c1,Tm.cy,show ¬0<=t.head by omega]
 ·simp only[decide_eq_false c1,cD,aG,bX,decide_eq_false_iff_not,decide_eq_true_eq]at hk;rw[if_neg c1,if_neg (by simp only[hk.2,not_true_eq_false,or_false];exact hk.1)];have h0 : 0<=t.head:=by omega
  have h1:t.head<(g.length:Int):=by omega
  cases ht:(lN g t.head).cy<;>cases top<;>simp[Tm.cy,h0,h1,ht]
mutual
theorem U_ (g:List Sy):∀(t:Tm) (top:Bool) (x:Bool×Bool),t.good=true->t.known g=true->(t.walk (lV g) top x).2=(x.2||((!top&&t.cy g) || !t.g_ g))
 | .mk h ts,top,x,hg,hk=>by
  have hh:kL g (.mk h ts)=true:=by
   simp only[Tm.known,cb,aG]at hk;simp only[kL,Tm.head,Tm.args,cb,aG];exact hk.imp id And.left
  have Rs:Tm.e8 g ts=true:=by
   by_cases c1:h<0
   ·rw[Te hg c1];rfl
   ·simp only[Tm.known,decide_eq_false c1,cD,aG]at hk;exact hk.2
  simp only[Tm.walk,Tm.g_];rw[Ul g ts _ (XK hg) Rs,Yz9 g x _ top hh,pP]
theorem Ul (g:List Sy):∀(ts:List Tm) (x:Bool×Bool),Tm.fy ts=true->Tm.e8 g ts=true->(Tm.walks (lV g) ts x).2=(x.2 || !Tm.fp g ts)
 |[],x,_,_=>by simp[Tm.walks,Tm.fp]
 |t :: ts,x,hg,hk=>by
  simp only[Tm.fy,Tm.e8,aG]at hg hk;simp only[Tm.walks,Tm.fp];rw[Ul g ts _ hg.2 hk.2,U_ g t _ _ hg.1 hk.1];cases t.cy g<;>cases t.g_ g<;>cases x.2<;>simp
end
end Go.Proofs
namespace Go.Proofs
open Go Go.dq
attribute [local go_sem] Nat.reduceAdd Nat.reduceSub Nat.reduceMul Nat.reduceLeDiff Nat.reduceEqDiff Nat.reduceBEq
theorem Ytx {ι:Type} (b0 b1 b2 b3 b4 b5 b6 b7 : ι->Option bS) (step : ι->Tm->Bool->ι) (c:ah) (hs:∀x,bH 8 [b0 x,b1 x,b2 x,b3 x,b4 x,b5 x,b6 x,b7 x]) (hc:c.low 8)
  (hy:∀x t top,ak Tryz.prog c [t.aH,.bool top] [b0 x,b1 x,b2 x,b3 x,b4 x,b5 x,b6 x,b7 x] (λ_ σ'=>σ'=[b0 (step x t top),b1 (step x t top),b2 (step x t top),b3 (step x t top),b4 (step x t top),b5 (step x t top),b6 (step x t top),b7 (step x t top)])) (t:Tm) :
  t.size<2 ^ 62->∀top x,ak Tryz.prog (.fn 159 [] []) [t.aH,.bool top,c] [b0 x,b1 x,b2 x,b3 x,b4 x,b5 x,b6 x,b7 x]
   (λr σ'=>r=.dw []/\σ'=[b0 (t.walk step top x),b1 (t.walk step top x),b2 (t.walk step top x),b3 (t.walk step top x),b4 (t.walk step top x),b5 (t.walk step top x),b6 (t.walk step top x),b7 (t.walk step top x)]):=by
 induction t using Tm.fF with
 |h h ts ih =>
 intro eM top x;simp only[Tm.size]at eM;have hlen:=mH ts;have I8:=oJ (m:=9) (by decide) hc;refine ak.begin (rs:=[]) (m:=20) 1000 Tryz.func159 rfl rfl rfl rfl rfl ?_;simp only[go_sem,cq,Tm.head,Tm.args,ae];rw[yp];refine ak.tail (σ:=[b0 x,b1 x,b2 x,b3 x,b4 x,b5 x,b6 x,b7 x]) (τ:=[some (.var [.int .i64 h,.ps 2 (ts.map Tm.aH)])]) hc (by simp[go_sem,cV]) (hs x) ?_;refine(hy x (.mk h ts) top).mono ?_;rintro r σ' rfl;refine⟨rfl,?_⟩;refine aC.g ?_;simp only[go_sem,ao];generalize xS:step x (.mk h ts) top=x1;have hend:Tm.walk step (.mk h ts) top x=Tm.walks step ts x1:=by rw[<-xS];rfl
 rw[hend];refine aC.cA (ι:={i:Nat // i<=ts.length}) 1000 (λi=>dV 23 [(2,c),(13,.ps 2 (ts.map Tm.aH)),(14,.int .i64 ts.length),(15,.int .i64 i.1)]) (λi=>[b0 (Tm.walks step (ts.take i.1) x1),b1 (Tm.walks step (ts.take i.1) x1),b2 (Tm.walks step (ts.take i.1) x1),b3 (Tm.walks step (ts.take i.1) x1),b4 (Tm.walks step (ts.take i.1) x1),b5 (Tm.walks step (ts.take i.1) x1),b6 (Tm.walks step (ts.take i.1) x1),b7 (Tm.walks step (ts.take i.1) x1),some (.var [.int .i64 h,.ps 2 (ts.map Tm.aH)])]) (λi=>ts.length-i.1) ⟨0,by omega⟩ ?_ (λ_=>bV 8 1) ?_
 ·have h9:=ph (m:=9) (by decide) (hs x1);simp only[yS,HX,and_true]at h9;simp only[go_sem,I8,bC,yS,h9,jh,Tm.walks,zF,bP]
 ·rintro⟨i,hi⟩;by_cases bx:(i:Int)<ts.length
  ·have aL:i<ts.length:=by omega
   have JV:=sn ts i aL;have rD:=Wf step ts i aL x1;simp only[go_sem,bx,ao,bh,jT aL,dO,ae];rw[<-cq]
   (repeat((with_reducible refine And.intro ?_ ?_);·omega))
   refine ak.tail (σ:=[b0 (Tm.walks step (ts.take i) x1),b1 (Tm.walks step (ts.take i) x1),b2 (Tm.walks step (ts.take i) x1),b3 (Tm.walks step (ts.take i) x1),b4 (Tm.walks step (ts.take i) x1),b5 (Tm.walks step (ts.take i) x1),b6 (Tm.walks step (ts.take i) x1),b7 (Tm.walks step (ts.take i) x1)]) (τ:=[some (.var [.int .i64 h,.ps 2 (ts.map Tm.aH)]),some (.var [.int .i64 ts[i].head,.ps 2 (ts[i].args.map Tm.aH)])]) ⟨trivial,trivial⟩ (by simp[go_sem,cV,hc]) (hs _) ?_;refine(ih i aL (by omega) false _).mono ?_;rintro r' jO ⟨rfl,rfl⟩;refine⟨rfl,?_⟩;rw[<-rD];refine aC.g ?_;simp only[go_sem];refine⟨⟨i+1,aL⟩,?_,by simp only;omega⟩;have h9:=ph (m:=9) (by decide) (hs (Tm.walks step (ts.take (i+1)) x1));simp only[yS,HX,and_true]at h9;simp only[go_sem,I8,bC,yS,h9,zF];rw[dt (by omega)];rfl
  ·have dm:i=ts.length:=by omega
   subst dm;simp only[go_sem,bx,bQ];refine aC.g ?_;simp only[go_sem];rw[gy];exact⟨[b0 (Tm.walks step ts x1),b1 (Tm.walks step ts x1),b2 (Tm.walks step ts x1),b3 (Tm.walks step ts x1),b4 (Tm.walks step ts x1),b5 (Tm.walks step ts x1),b6 (Tm.walks step ts x1),b7 (Tm.walks step ts x1)],by simp[go_sem],ae _,hs _,trivial,rfl,rfl⟩
theorem Ylc (g:List Sy) (b1:Option bS) (qR:ke 8 b1) (x:Bool×Bool) (t:Tm) (top:Bool):ak Tryz.prog (.fn 160 [] [.ptr 0 0,.ptr 2 0,.ptr 3 0]) [t.aH,.bool top] [some (.var [.ps 4 (syms g)]),b1,some (.var [.bool x.1]),some (.var [.bool x.2]),none,none,none,none]
  (λ_ σ'=>σ'=[some (.var [.ps 4 (syms g)]),b1,some (.var [.bool (lV g x t top).1]),some (.var [.bool (lV g x t top).2]),none,none,none,none]):=by
 obtain⟨un,mx⟩:=x;have lg:∀u m,bH 8 [some (.var [.ps 4 (syms g)]),b1,some (.var [.bool u]),some (.var [.bool m]),none,none,none,none]:=λu m=>⟨⟨cS g,trivial⟩,qR,⟨trivial,trivial⟩,⟨trivial,trivial⟩,trivial,trivial,trivial,trivial,trivial⟩;refine ak.begin (rs:=[]) (m:=35) 1000 Tryz.func160 rfl rfl rfl rfl rfl ?_;by_cases c1:t.head<0
 ·have tM:lV g (un,mx) t top=(un,mx):=if_pos c1;simp only[go_sem,cq,c1];rw[gy];exact⟨[some (.var [.ps 4 (syms g)]),b1,some (.var [.bool un]),some (.var [.bool mx]),none,none,none,none],by simp[go_sem],ae _,lg _ _,trivial,by rw[tM]⟩
 simp only[go_sem,cq,c1];refine aC.draw [] 9 9 mixed rfl rfl (ae _) ?_;by_cases c2:(g.length:Int)<=t.head
 ·have tM:lV g (un,mx) t top=(true,mx):=by rw[lV,if_neg c1,if_pos (.inl c2)]
  simp only[go_sem,cM,na,c2];refine aC.g ?_;simp only[go_sem];rw[gy];exact⟨[some (.var [.ps 4 (syms g)]),b1,some (.var [.bool true]),some (.var [.bool mx]),none,none,none,none],by simp[go_sem],ae _,lg _ _,trivial,by rw[tM]⟩
 have hi:t.head.toNat<g.length:=by omega
 have zX:lN g t.head=g[t.head.toNat]:=CF hi;by_cases c3:(t.args.length:Int)=g[t.head.toNat].arity
 ·simp only[go_sem,cM,na,c2,ao,sv hi,sw,c3,ae]
  (repeat((with_reducible refine And.intro ?_ ?_);·omega))
  refine aC.g ?_;cases ht:g[t.head.toNat].cy with
  |false =>
   have tM:lV g (un,mx) t top=(un,mx):=by rw[lV,if_neg c1,if_neg (by rw[zX];simp only[c3,not_true_eq_false,or_false];exact c2),if_neg (by rw[zX,ht];simp)]
   simp only[go_sem,na,sv hi,sw,ht]
   (repeat((with_reducible refine And.intro ?_ ?_);·omega))
   rw[gy];exact⟨[some (.var [.ps 4 (syms g)]),b1,some (.var [.bool un]),some (.var [.bool mx]),none,none,none,none],by simp[go_sem],ae _,lg _ _,trivial,by rw[tM]⟩
  | true =>
   cases top with
   |false =>
    have tM:lV g (un,mx) t false=(un,true):=by rw[lV,if_neg c1,if_neg (by rw[zX];simp only[c3,not_true_eq_false,or_false];exact c2),if_pos (by rw[zX,ht];simp)]
    simp only[go_sem,na,sv hi,sw,ht]
    (repeat((with_reducible refine And.intro ?_ ?_);·omega))
    rw[gy];exact⟨[some (.var [.ps 4 (syms g)]),b1,some (.var [.bool un]),some (.var [.bool true]),none,none,none,none],by simp[go_sem],ae _,lg _ _,trivial,by rw[tM]⟩
   |true =>
    have tM:lV g (un,mx) t true=(un,mx):=by rw[lV,if_neg c1,if_neg (by rw[zX];simp only[c3,not_true_eq_false,or_false];exact c2),if_neg (by simp)]
    simp only[go_sem,na,sv hi,sw,ht]
    (repeat((with_reducible refine And.intro ?_ ?_);·omega))
    rw[gy];exact⟨[some (.var [.ps 4 (syms g)]),b1,some (.var [.bool un]),some (.var [.bool mx]),none,none,none,none],by simp[go_sem],ae _,lg _ _,trivial,by rw[tM]⟩
 ·have tM:lV g (un,mx) t top=(true,mx):=by rw[lV,if_neg c1,if_pos (.inr (by rw[zX];exact c3))]
  simp only[go_sem,cM,na,c2,ao,sv hi,sw,c3,ae]
  (repeat((with_reducible refine And.intro ?_ ?_);·omega))
  refine aC.g ?_;simp only[go_sem];rw[gy];exact⟨[some (.var [.ps 4 (syms g)]),b1,some (.var [.bool true]),some (.var [.bool mx]),none,none,none,none],by simp[go_sem],ae _,lg _ _,trivial,by rw[tM]⟩
theorem Pr (g:List Sy) (t:Tm) (eM:t.size<999999999):az Tryz.prog 135 [.ps 4 (syms g),t.aH] (.int .i64 (t.term g)):=by
 refine az.begin (rs:=[.tmp 4]) (m:=24) 1000 Tryz.func135 rfl rfl rfl (by decide) trivial ?_;simp only[go_sem,cq,ae];refine ak.bm [] (V5 g) (bL _ _ _) (by simp[go_sem,cS]) ?_;simp only[bj,bA,bz,if_true];refine aC.g ?_;cases c1:fH g with
 |false=>simp only[go_sem,Tm.term,c1,Int.reduceEq]
 |true =>
 simp only[go_sem,ae];rw[<-cq];refine ak.bm [] (EL t eM) (bL _ _ _) (by simp[go_sem,cV]) ?_;simp only[bj,bA,bz,if_true];refine aC.g ?_;by_cases c2:t.check=0
 case neg=>simp only[go_sem,c2,Tm.term,c1]
 simp only[go_sem,c2,ae];rw[<-cq];have tA:=(Ydr c2).1;have qR:ke 8 (some (.var [.int .i64 t.head,.ps 2 (t.args.map Tm.aH)])):=⟨trivial,bC _,trivial⟩;refine ak.pad 4 ?_;refine(Ytx (ι:=Bool×Bool) (λ_=>some (.var [.ps 4 (syms g)])) (λ_=>some (.var [.int .i64 t.head,.ps 2 (t.args.map Tm.aH)])) (λx=>some (.var [.bool x.1])) (λx=>some (.var [.bool x.2])) (λ_=>none) (λ_=>none) (λ_=>none) (λ_=>none)
  (lV g) (.fn 160 [] [.ptr 0 0,.ptr 2 0,.ptr 3 0]) (λx=>⟨⟨cS g,trivial⟩,qR,⟨trivial,trivial⟩,⟨trivial,trivial⟩,trivial,trivial,trivial,trivial,trivial⟩) (by simp[go_sem]) (λx t top=>Ylc g _ qR x t top) t (by omega) true (false,false)).mono ?_
 rintro r σ' ⟨rfl,rfl⟩;rw[gy];refine⟨[some (.var [.ps 4 (syms g)]),some (.var [.int .i64 t.head,.ps 2 (t.args.map Tm.aH)]),some (.var [.bool (t.walk (lV g) true (false,false)).1]),some (.var [.bool (t.walk (lV g) true (false,false)).2])],by simp[go_sem],ae _,⟨⟨cS g,trivial⟩,⟨trivial,bC _,trivial⟩,⟨trivial,trivial⟩,⟨trivial,trivial⟩,trivial⟩,trivial,?_⟩;rw[U8 g t true _ tA];refine aC.g ?_;cases c3:t.known g with
 |false =>
  simp only[go_sem];simp[Tm.term,c1,c2,c3]
 | true =>
  rw[U_ g t true _ tA c3];cases c4:t.g_ g with
  |false =>
   simp only[go_sem];simp[Tm.term,c1,c2,c3,c4]
  |true =>
   simp only[go_sem];simp[Tm.term,c1,c2,c3,c4]
def t_ (g:List Sy)(l:Li):ah:=.agg [.ps 4 (syms g),.bool l.neg,.int .i64 l.l.head,.ps 2 (l.l.args.map Tm.aH),.int .i64 l.r.head,.ps 2 (l.r.args.map Tm.aH)]
theorem zI (g:List Sy)(l:Li):t_ g l=.agg [.ps 4 (syms g),.bool l.neg,.int .i64 l.l.head,.ps 2 (l.l.args.map Tm.aH),.int .i64 l.r.head,.ps 2 (l.r.args.map Tm.aH)]:=rfl
theorem GN {n:Nat}(g:List Sy)(l:Li):(t_ g l).low n:=⟨cS _,trivial,trivial,bC _,trivial,bC _,trivial⟩
theorem Ys4 (g:List Sy)(l:Li)(eM:l.l.size<999999999):az Tryz.prog 98 [t_ g l] (.int .i64 (l.l.term g)):=by
 refine az.begin (rs:=[.tmp 2]) (m:=8) 1000 Tryz.func98 rfl rfl rfl (by decide) trivial ?_;simp only[go_sem,zI,ae];rw[<-cq];refine ak.bm [] (Pr g l.l eM) (bL _ _ _) (by simp[go_sem,cS,cV]) ?_;simp only[bj,bA,bz,if_true];refine aC.g ?_;simp only[go_sem]
theorem Ygz (g:List Sy)(l:Li)(eM:l.r.size<999999999):az Tryz.prog 99 [t_ g l] (.int .i64 (l.r.term g)):=by
 refine az.begin (rs:=[.tmp 2]) (m:=8) 1000 Tryz.func99 rfl rfl rfl (by decide) trivial ?_;simp only[go_sem,zI,ae];rw[<-cq];refine ak.bm [] (Pr g l.r eM) (bL _ _ _) (by simp[go_sem,cS,cV]) ?_;simp only[bj,bA,bz,if_true];refine aC.g ?_;simp only[go_sem]
theorem Xh (g:List Sy) (l:Li) (t:Tm) (h:t.head<g.length):az Tryz.prog 136 [t_ g l,t.aH] (.bool (t.cy g)):=by
 refine az.begin (rs:=[.tmp 4]) (m:=15) 1000 Tryz.func136 rfl rfl rfl (by decide) trivial ?_;by_cases c1 : 0<=t.head
 ·have hi:t.head.toNat<g.length:=by omega
  have zX:lN g t.head=g[t.head.toNat]:=CF hi;simp only[go_sem,zI,cq,c1,na,sv hi,sw];refine⟨by omega,?_⟩;simp[Tm.cy,c1,h,zX]
 ·simp only[go_sem,zI,cq,c1,Tm.cy]
def Li.sorts (g:List Sy)(l:Li):Int:=if (l.l.cy g&&decide (l.r.head≠0))||(!l.l.cy g&&l.r.cy g) then 10 else 0
theorem Ymf (g:List Sy) (l:Li) (h1:l.l.head<g.length) (h2:l.r.head<g.length):az Tryz.prog 100 [t_ g l] (.int .i64 (l.sorts g)):=by
 refine az.begin (rs:=[.tmp 2]) (m:=27) 1000 Tryz.func100 rfl rfl rfl (by decide) trivial ?_;simp only[go_sem,zI,ae];rw[<-cq,<-zI];refine ak.bm [] (Xh g l l.l h1) (bL _ _ _) (by simp[go_sem,GN,cV]) ?_;simp only[bj,bA,bz,if_true];refine aC.g ?_;cases c1:l.l.cy g with
 |true =>
  by_cases c2:l.r.head=0
  ·simp only[go_sem,c2];simp[Li.sorts,c1,c2]
  ·simp only[go_sem,c2];simp[Li.sorts,c1,c2]
 |false =>
  simp only[go_sem,ae];rw[<-cq,<-zI];refine ak.bm [] (Xh g l l.r h2) (bL _ _ _) (by simp[go_sem,GN,cV]) ?_;simp only[bj,bA,bz,if_true];refine aC.g ?_;cases c2:l.r.cy g <;>
  ·simp only[go_sem];simp[Li.sorts,c1,c2]
theorem Kw (g:List Sy)(l:Li):l.check g=if l.l.term g≠0 then l.l.term g else if l.r.term g≠0 then l.r.term g else l.sorts g:=rfl
theorem Uy {g:List Sy}{t:Tm}(h:t.known g=true)(hg : 1<=g.length):t.head<g.length:=by
 obtain⟨hd,ts⟩:=t;simp only[Tm.head];by_cases c:hd<0
 ·omega
 ·simp only[Tm.known,decide_eq_false c,cD,aG,bX,decide_eq_false_iff_not]at h;omega
theorem Ylj {g:List Sy}{t:Tm}(h:t.term g=0):fH g=true:=by
 unfold Tm.term at h;split at h
 ·omega
 ·rename_i h2;simpa using h2
theorem Yma (g:List Sy) (l:Li) (hl:l.l.size<999999999) (hr:l.r.size<999999999):az Tryz.prog 97 [t_ g l,.ps 1 [.fn 98 [] [],.fn 99 [] [],.fn 100 [] []]] (.int .i64 (l.check g)):=by
 refine az.begin (rs:=[.tmp 4]) (m:=19) 1000 Tryz.func97 rfl rfl rfl (by decide) trivial ?_;simp only[go_sem,zI];refine aC.cA (ι:={i:Nat // i<=3/\(1<=i->l.l.term g=0)/\(2<=i->l.r.term g=0)/\(3<=i->l.sorts g=0)}) 1000 (λi=>dV 21 [(2,.ptr 0 0),(8,.ps 1 [.fn 98 [] [],.fn 99 [] [],.fn 100 [] []]),(9,.int .i64 ((3:Nat):Int)),(10,.int .i64 i.1)])
  (λ_=>[some (.var [.ps 4 (syms g),.bool l.neg,.int .i64 l.l.head,.ps 2 (l.l.args.map Tm.aH),.int .i64 l.r.head,.ps 2 (l.r.args.map Tm.aH)])]) (λi=>3-i.1) ⟨0,by omega,by omega,by omega,by omega⟩ ?_ (λ_=>aj _) ?_
 ·simp only[go_sem,cS,bC,bP,bF]
 ·rintro⟨i,hi,h1,h2,h3⟩;have n0:((0:Nat):Int)=0:=rfl;have n1:((1:Nat):Int)=1:=rfl;have n2:((2:Nat):Int)=2:=rfl;have n3:((3:Nat):Int)=3:=rfl;rcases(by omega:i=0\/i=1\/i=2\/i=3) with rfl|rfl|rfl|rfl
  ·simp only[go_sem,n0,n1,n2,n3,Int.reduceLT,Int.reduceLE,aq,aF,Int.reduceToNat,aV,bE,ae];rw[<-zI];refine ak.bm [] (Ys4 g l hl) (bL _ _ _) (by simp[go_sem,GN]) ?_;simp only[bj,bA,bz,if_true];refine aC.g ?_;by_cases c:l.l.term g=0
   ·simp only[go_sem,c];refine⟨⟨1,by omega,λ_=>c,by omega,by omega⟩,?_,by simp only;omega⟩;simp only[go_sem,cS,bC,bF];rfl
   ·simp only[go_sem,c];refine aC.g ?_;simp only[go_sem];rw[Kw,if_pos c]
  ·simp only[go_sem,n0,n1,n2,n3,Int.reduceLT,Int.reduceLE,aq,aF,Int.reduceToNat,aV,bE,ae];rw[<-zI];refine ak.bm [] (Ygz g l hr) (bL _ _ _) (by simp[go_sem,GN]) ?_;simp only[bj,bA,bz,if_true];refine aC.g ?_;by_cases c:l.r.term g=0
   ·simp only[go_sem,c];refine⟨⟨2,by omega,λ_=>h1 (by omega),λ_=>c,by omega⟩,?_,by simp only;omega⟩;simp only[go_sem,cS,bC,bF];rfl
   ·simp only[go_sem,c];refine aC.g ?_;simp only[go_sem];rw[Kw,if_neg (by simp[h1 (by omega)]),if_pos c]
  ·have t1:=h1 (by omega);have t2:=h2 (by omega);have hg:=(W8 (Ylj t1)).1;simp only[go_sem,n0,n1,n2,n3,Int.reduceLT,Int.reduceLE,aq,aF,Int.reduceToNat,aV,bE,ae];rw[<-zI];refine ak.bm [] (Ymf g l (Uy (n_ t1).2.1 hg) (Uy (n_ t2).2.1 hg)) (bL _ _ _) (by simp[go_sem,GN]) ?_;simp only[bj,bA,bz,if_true];refine aC.g ?_;by_cases c:l.sorts g=0
   ·simp only[go_sem,c];refine⟨⟨3,by omega,λ_=>t1,λ_=>t2,λ_=>c⟩,?_,by simp only;omega⟩;simp only[go_sem,cS,bC,bF];rfl
   ·simp only[go_sem,c];refine aC.g ?_;simp only[go_sem];rw[Kw,if_neg (by simp[t1]),if_neg (by simp[t2])]
  ·simp only[go_sem,n0,n1,n2,n3,Int.reduceLT];refine aC.g ?_;simp only[go_sem];rw[Kw,if_neg (by simp[h1 (by omega)]),if_neg (by simp[h2 (by omega)]),h3 (by omega)]
theorem OU (g:List Sy)(l:Li)(hl:l.l.size<999999999)(hr:l.r.size<999999999):az Tryz.prog 62 [.ps 4 (syms g),l.aH] (.int .i64 (l.check g)):=by
 refine az.begin (rs:=[.tmp 4]) (m:=8) 1000 Tryz.func62 rfl rfl rfl (by decide) trivial ?_;simp only[go_sem,Li.aH,Li.cs];refine⟨rfl,rfl,rfl,by decide,?_⟩;rw[<-zI];refine ak.bm [1] (Yma g l hl hr) ?_ (by simp[go_sem,GN]) ?_
 ·simp only[go_sem,k_,lb]
 simp only[bj,bA,bz,if_true];refine aC.g ?_;simp only[go_sem]
theorem HZ (g:List Sy) (c:List Li) (hs:∀(i:Nat) (h:i<c.length),c[i].l.size<999999999/\c[i].r.size<999999999):az Tryz.prog 28 [.ps 4 (syms g),.ps 5 (lits c)] (.int .i64 (aW g c)):=by
 refine az.begin (rs:=[.tmp 4]) (m:=28) 1000 Tryz.func28 rfl rfl rfl (by decide) trivial ?_;simp only[go_sem];refine ak.bm [] (V5 g) (bL _ _ _) (by simp[go_sem,cS]) ?_;simp only[bj,bA,bz,if_true];refine aC.g ?_;cases c1:fH g with
 |false =>
  simp only[go_sem,Int.reduceEq];simp[aW,c1]
 |true =>
 by_cases c2 : 32<(c.length:Int)
 ·simp only[go_sem,dA,c2];simp[aW,c1,c2]
 simp only[go_sem,dA,c2];have Hj:aW g c=dH g c:=by simp[aW,c1,c2]
 rw[Hj];refine aC.cA (ι:={i:Nat // i<=c.length/\dH g (c.drop i)=dH g c}) 1000 (λi=>dV 30 [(0,.ps 4 (syms g)),(17,.ps 5 (lits c)),(18,.int .i64 c.length),(19,.int .i64 i.1)]) (λ_=>[]) (λi=>c.length-i.1) ⟨0,by simp⟩ ?_ (λ_=>aj _) ?_
 ·simp only[go_sem,cS,bI,dA,bP]
 ·rintro⟨i,hi,aD⟩;by_cases bx:(i:Int)<c.length
  ·have aL:i<c.length:=by omega
   rw[Vk g c i aL]at aD;simp only[go_sem,dA,bx,bh,qs aL,gf,ae];refine⟨by omega,?_⟩;have eM:=hs i aL;refine ak.bm [] (OU g c[i] eM.1 eM.2) (by simp only[Li.aH,Li.cs];exact bL _ _ _) (by simp[go_sem,cS,jU]) ?_;simp only[bj,bA,bz,if_true];refine aC.g ?_;by_cases c3:c[i].check g=0
   ·simp only[go_sem,c3];rw[if_neg (by simp[c3])]at aD;refine⟨⟨i+1,aL,aD⟩,?_,by simp only;omega⟩;simp only[go_sem,cS,bI];rw[dt (by omega)];rfl
   ·simp only[go_sem,c3];rw[if_pos c3]at aD;refine aC.g ?_;simp only[go_sem,aD]
  ·simp only[go_sem,dA,bx];refine aC.g ?_;simp only[go_sem];have:i=c.length:=by omega
   subst this;rw[<-aD,aJ,dH]
theorem Ygb (c:List Li) (hc:c.length<1000000):az Tryz.prog 74 [.ps 5 (lits c)] (.ps 2 ((cH c).map Tm.aH)):=by
 refine az.begin (rs:=[.tmp 2]) (m:=20) 1000 Tryz.func74 rfl rfl rfl (by decide) (bC _) ?_;simp only[go_sem,dA];refine aC.ep (ι:={i:Nat // i<=c.length}) 1000 (λi=>dV 21 [(3,eR 0 2 ((cH (c.take i.1)).map Tm.aH)),(6,.ps 5 (lits c)),(7,.int .i64 c.length),(8,.int .i64 i.1)]) (λi=>[cX ((cH (c.take i.1)).map Tm.aH)]) (λi=>c.length-i.1) ⟨0,by omega⟩ [] ?_ (λ_=>by simp) ?_
 ·refine eL rfl ?_;simp only[go_sem,cH,qo,pU,pC,bI,bT,bP]
 ·rintro ⟨i,hi⟩;have Rw:=EM (c.take i);have nP:(c.take i).length<=c.length:=by rw[bN];omega
  have fN:=λh=>Wt c i h;generalize hq:cH (c.take i)=q at *
  by_cases bx:(i:Int)<c.length
  ·have aL:i<c.length:=by omega
   simp only[go_sem,dA,bx,hq,bh,qs aL,gf,ae,PJ,eE,aU,dU,forall_eq_or_imp,forall_eq,cR,ao];refine⟨by omega,by omega,⟨i+1,aL⟩,[(0,3),(3,0)],eL rfl ?_,by simp only;omega⟩;simp only[fN aL];rw[dt (by omega)];have e1:(q++[c[i].l,c[i].r]).map Tm.aH=q.map Tm.aH++[.agg [.int .i64 c[i].l.head,.ps 2 (c[i].l.args.map Tm.aH)],.agg [.int .i64 c[i].r.head,.ps 2 (c[i].r.args.map Tm.aH)]]:=by
    rw[cf,aI,aI,aR,cq c[i].l,cq c[i].r]
   have lw:bG 0 ((q++[c[i].l,c[i].r]).map Tm.aH):=bC _;rw[e1]at lw ⊢;rw[qP (by simp),qQ (by simp)];simp only[go_sem,bI,bT,bT lw,ao,iD (aj 1) lw,fJ,fK,bF]
  ·simp only[go_sem,bx];refine aC.g ?_;have:i=c.length:=by omega
   subst this;rw[bQ]at hq;simp only[go_sem,hq,nI]
end Go.Proofs
namespace Go.Proofs
open Go Go.dq
attribute [go_sem] Nat.reduceAdd Nat.reduceSub Nat.reduceMul Nat.reduceLeDiff Nat.reduceEqDiff Nat.reduceBEq Nat.reduceLT Nat.le_refl Int.natCast_zero Nat.sub_zero List.length_map Int.toNat_natCast Int.natCast_one Int.reduceEq Int.reduceLT Int.reduceLE Int.reduceNe Int.sub_zero Int.zero_add Int.toNat_one
def kW (p:Int->Bool)(vs:List Int)(seen:List Nat):Bool:=seen.any λi=>p (vs.getD i 0)
theorem Uh (p q:Nat->Bool) (h:∀x,p x=true->q x=true):∀l:List Nat,(l.filter p).length<=(l.filter q).length
 |[]=>ae _
 |x :: l=>by
  have:=Uh p q h l;simp only[qn];cases hp:p x with
  |true=>simp[h x hp];omega
  |false=>cases hq:q x<;>simp<;>omega
theorem Um (p q:Nat->Bool) (h:∀x,p x=true->q x=true):∀(l:List Nat) (i:Nat),i∈l->q i=true->p i=false->(l.filter p).length<(l.filter q).length
 | x :: l,i,hi,h1,h2=>by
  have hle:=Uh p q h l;simp only[qn];rcases aU.1 hi with rfl|hi
  ·simp[h1,h2];omega
  ·have:=Um p q h l i hi h1 h2;cases hp:p x with
   |true=>simp[h x hp];omega
   |false=>cases hq:q x<;>simp<;>omega
def vU (n:Nat)(seen:List Nat):Nat:=((List.range n).filter λj=>!seen.contains j).length
theorem Yo {n j:Nat} {seen:List Nat} (hj:j<n) (hn:j ∉ seen):vU n (seen++[j])<vU n seen :=
 Um _ _ (λx hx=>by
  simp only[bX,<-dB,sg]at hx ⊢;exact λh=>hx (a_.2 (.inl h))) _ j (cd.2 hj) (by simpa using hn) (by simp)
theorem Ylk (w:Int) (ks:List ah) (vs:List Int) (h:ks.length=vs.length) (hk:bG 0 ks):az Tryz.prog 228 [.pp [.int .i64 w,.pm ks (ints vs)]] (.dw [.bool (vs.any λn=>decide (0<n)),.bool (vs.any λn=>decide (n<0))]):=by
 refine az.begin (rs:=[.tmp 2,.tmp 3]) (m:=28) 1000 Tryz.func228 rfl rfl rfl (by decide) ⟨trivial,trivial,trivial⟩ ?_;simp only[go_sem];refine aC.cA (ι:={seen:List Nat // ∀i∈seen,i<ks.length}) 1000 (λx=>dV 29 [(2,.bool false),(3,.bool false),(4,.bool (kW (λn=>decide (0<n)) vs x.1)),(5,.bool (kW (λn=>decide (n<0)) vs x.1)),(12,.it 0)])
  (λx=>[some (.mC ks (ints vs) x.1)]) (λx=>vU ks.length x.1) ⟨[],λi hi=>by cases hi⟩ ?_ (λ_=>aj _) ?_
 ·simp only[go_sem,kW,fD];exact⟨iD (aj 1) hk,cY _⟩
 ·rintro ⟨seen,hs⟩;simp only[go_sem];refine⟨0,ks,ints vs,seen,rfl,rfl,λj hj hn=>?_,λfj=>?_⟩
  ·have hjv:j<vs.length:=by omega
   have JT:∀i∈seen++[j],i<ks.length:=λi hi=>by
    rcases a_.1 hi with hi|hi
    ·exact hs i hi
    ·rw[aK.1 hi];exact hj
   have vF:∀p:Int->Bool,kW p vs (seen++[j])=(kW p vs seen||p (vs.getD j 0)):=λp=>by simp[kW]
   have hg:(ints vs).getD j .undef=.int .i64 (vs.getD j 0):=by
    rw[vu hjv];simp[List.getD,ax hjv]
   generalize vs.getD j 0=v at vF hg;have h1:=vF λn=>decide (0<n);have h2:=vF λn=>decide (n<0);generalize ha:kW (λn=>decide (0<n)) vs seen=a at h1;generalize hb:kW (λn=>decide (n<0)) vs seen=b at h2;cases a<;>cases b<;>(
    refine aC.g ?_;simp only[go_sem,hg,ha,hb];refine⟨⟨seen++[j],JT⟩,?_,Yo hj hn⟩;simp only[go_sem,h1,h2,cY,hk,iD (aj 1) hk]
    first|done|exact⟨gL _,by decide⟩|exact gL _|decide|trace_state)
  ·have gW:∀p:Int->Bool,kW p vs seen=vs.any p:=λp=>by
    rw[eK,kW,cP,cP];constructor
    ·rintro⟨i,hi,hp⟩;have hiv:i<vs.length:=by have:=hs i hi;omega
     exact⟨vs[i],ay hiv,by simpa[List.getD,ax hiv] using hp⟩
    ·rintro⟨x,hx,hp⟩;obtain⟨i,hi,rfl⟩:=j6.1 hx;exact⟨i,fj i (by omega),by simpa[List.getD,ax hi] using hp⟩
   refine aC.g ?_;simp only[go_sem];refine aC.g ?_;simp only[go_sem,gW]
def oo (n:Int)(more less:Bool):Int:=if 0<n/\less=false then 1 else if n<0/\more=false then -1 else 2
theorem Yru (w n:Int) (ks:List ah) (vs:List Int) (h:ks.length=vs.length) (hk:bG 0 ks):az Tryz.prog 213 [.pp [.int .i64 w,.pm ks (ints vs)],.int .i64 n] (.int .i64 (oo n (vs.any λn=>decide (0<n)) (vs.any λn=>decide (n<0)))):=by
 refine az.begin (rs:=[.tmp 4]) (m:=24) 1000 Tryz.func213 rfl rfl rfl (by decide) trivial ?_;have hS:=Ylk w ks vs h hk;generalize (vs.any λn=>decide (0<n))=a at *
 generalize (vs.any λn=>decide (n<0))=b at *
 simp only[go_sem];refine ak.bm [] hS (bL _ _ _) ⟨⟨trivial,⟨hk,cY _⟩,trivial⟩,trivial⟩ ?_;rw[eW];simp only[ite_self];refine aC.g ?_;by_cases c1 : 0<n
 ·have c2:¬n<0:=by omega
  cases b
  ·simp only[go_sem,c1,c2];simp[oo,c1]
  ·simp only[go_sem,c1,c2];simp[oo,c1,c2]
 ·by_cases c2:n<0
  ·cases a
   ·simp only[go_sem,c1,c2];simp[oo,c1,c2]
   ·simp only[go_sem,c1,c2];simp[oo,c1,c2]
  ·simp only[go_sem,c1,c2];simp[oo,c1,c2]
end Go.Proofs
namespace Go.dq
open Go
section
variable {P:Program}{F:Frame->List Frame->Sem Next->World->Value->World->Prop}{σ:av}
def BB (K:ah->av->Prop)(n:Nat)(r0:ah)(σ':av):Prop :=
 ∃r mP,pT (λb=>decide (n<=b)) σ' r r0/\ic mP σ'/\mP.length=n/\bH n mP/\r.low 0/\K r mP
theorem cj.tree {g:FuncId} {args:List ah} {K:ah->av->Prop} (h:iZ P F g args σ (BB K σ.length)):iZ P F g args σ K:=by
 intro X base β w vs h1 h2 h3 fr cs h4;obtain⟨r0,σ',β',v,w',⟨r,mP,k1,k2,k3,k4,k5,k6⟩,g1,g2,g3,g4,g5⟩:=h X base β w vs h1 h2 h3 fr cs h4;have hf:=Cs (λb=>decide (σ.length<=b)) σ';have fc:∀b,b < σ.length->(fw (λb=>decide (σ.length<=b)) 0 σ')[b]? = σ'[b]?:=λb hb=>by
  rw[GZ,br];have:decide (σ.length<=b)=false:=by simp;omega
  rw[this];cases σ'[b]?<;>rfl
 generalize Bh:fw (λb=>decide (σ.length<=b)) 0 σ' = mw at hf fc;have En:=g1.p6 hf.p6;have sU:=(Ip En hf r k1).1 v (g2.mono (DL hf.p6) (λ_ _ h=>h));have hle:zY mP mw:=λb x hb=>by
  have nx:b < σ.length:=by have:=(aN.1 hb).1;omega
  rw[fc b nx];exact xe k2 b x hb
 have hs:=En.drop hle k3 (sq k4);have tK:=cn.drop sU hle k3 (oJ (aj _) k5);exact⟨r,mP,_,v,w',k6,hs,tK,g3.drop (xe k2) k3 (ae _),by omega,g5⟩
end
section
variable {P:Program}{lo:Ctx}{Q:cB->St->Prop}{ops:Array Oper}
end
section
variable {P:Program}{σ:av}
end
section
variable {P:Program}
theorem Io {B x:bS}{b:Nat}:([some B]:av)[b]? = some (some x)↔b=0/\B=x:=by
 cases b with
 |zero=>simp
 |succ b=>simp
end
def ef (sz:Nat):ah:=if sz=1 then .undef else .agg (List.replicate sz .undef)
theorem Yjf (sz:Nat):(ef sz).cells.length=sz:=by
 unfold ef;split
 ·rename_i h;rw[h];rfl
 ·simp[ah.cells]
theorem Ygp (sz j:Nat):(ef sz).cells.getD j .undef=.undef:=by
 unfold ef;split
 ·cases j<;>simp[ah.cells]
 ·simp only[ah.cells,dR,dz];split<;>rfl
def tU:ah->ah
 |.oc b off n _ sz=>.os b off n sz
 |a=>a
section
variable {P:Program}{X:Nat->Nat->Prop}{base:Nat}{σ:av}{β β':Env}{w w':World}
theorem S3 {M:Nat->Nat->Prop} {v:Value} {a:ah} (h:cn w M β v a):cn w M β v (tU a):=by
 cases a with
 |oc b off n c sz=>cases h with
  |ve a h=>exact .vg a h
  |oc h1 h2 h3=>exact .os h1 h2 h3
 |_=>exact h
theorem Cu {b:Nat} {x y:bS} (hb:bW σ b=some x) (hm:∀L o,y.mut L o↔x.mut L o) {g o:Nat}:jR (cJ σ b y) β g o↔jR σ β g o:=by
 have oP:=la hb;have bx:b < σ.length:=(aN.1 oP).1;have fS:cJ σ b y = σ.set b (some y):=by unfold cJ;rw[if_pos bx]
 constructor
 ·rintro⟨c,z,L,m1,m2,m3,m4⟩;rw[fS,eA]at m1;split at m1
  ·rename_i e;subst e;cases m1;exact⟨b,x,L,oP,m2,m3,(hm _ _).1 m4⟩
  ·exact⟨c,z,L,m1,m2,m3,m4⟩
 ·rintro⟨c,z,L,m1,m2,m3,m4⟩;by_cases e:b=c
  ·subst e;rw[oP]at m1;cases m1;exact⟨b,y,L,by rw[fS,eA,if_pos rfl,if_pos bx],m2,m3,(hm _ _).2 m4⟩
  ·exact⟨c,z,L,by rw[fS,eA,if_neg e];exact m1,m2,m3,m4⟩
theorem Gu {b:Nat}{x y:bS}(hb:bW σ b=some x):(cJ σ b y).length = σ.length:=by
 have oP:=la hb;have bx:b < σ.length:=(aN.1 oP).1;unfold cJ;rw[if_pos bx,bg]
theorem c8.w9 (hr:c8 X base σ β w) {b:Nat} {x y:bS} (hb:bW σ b=some x) (hm:∀L o,y.mut L o↔x.mut L o) (jB:∀M L,β b=some L->ig w M β L x->ig w M β L y):c8 X base (cJ σ b y) β w:=by
 have oP:=la hb;have bx:b < σ.length:=(aN.1 oP).1;have fS:cJ σ b y = σ.set b (some y):=by unfold cJ;rw[if_pos bx]
 have hM:MT X (cJ σ b y) β=MT X σ β:=funext λg=>funext λo=>propext (by unfold MT;rw[Cu hb hm]);have fc:∀c z,(cJ σ b y)[c]? = some (some z)->(c=b/\z=y)\/σ[c]? = some (some z):=λc z h=>by
  rw[fS,eA]at h;split at h
  ·rename_i e;subst e;cases h;exact .inl ⟨rfl,rfl⟩
  ·exact .inr h
 have wY:∀c z,(cJ σ b y)[c]? = some (some z)->∃z',σ[c]? = some (some z'):=λc z h=>by
  rcases fc c z h with⟨rfl,rfl⟩|h
  ·exact⟨x,oP⟩
  ·exact⟨z,h⟩
 refine⟨λc hc=>hr.o_ c (by rw[Gu hb]at hc;exact hc),λc z hc=>?_,λc c' z z' L L' h1 h2 h3 h4 h5=>?_,hr.size,hr.sc,hr.gl⟩
 ·rw[hM];rcases fc c z hc with⟨rfl,rfl⟩|h
  ·obtain⟨L,q1,q2,q3,q4⟩:=hr.cG c x oP;exact⟨L,q1,q2,q3,jB _ L q1 q4⟩
  ·exact hr.cG c z h
 ·obtain⟨u,hu⟩:=wY c z h1;obtain⟨u',xn⟩:=wY c' z' h2;exact hr.inj c c' u u' L L' hu xn h3 h4 h5
theorem Ext.w9 {b lo:Nat}{x y:bS}(hb:bW σ b=some x)(hm:∀L o,y.mut L o↔x.mut L o){σ':av}(h:Ext lo (cJ σ b y) β w σ' β' w'):Ext lo σ β w σ' β' w' :=
 ⟨h.os,h.tape,h.output,h.size,λg o v hc hn=>h.cell g o v hc λhx=>hn ((Cu hb hm).1 hx),λg hg hn=>h.block g hg λo hx=>hn o ((Cu hb hm).1 hx),λg o hx=>(h.jq g o hx).imp (Cu hb hm).1 λh=>h,h.env⟩
theorem cj.vC {F:Frame->List Frame->Sem Next->World->Value->World->Prop} {g:FuncId} {args pre post:List ah} {K:ah->av->Prop} {b off n sz fz:Nat} {es:List ah} (ha:args=pre++.os b off n sz :: post) (hb:bW σ b=some (.row es fz)) (hl:es.length=off+n) (hn : 0<n)
  (h:∀c,n<=c->iZ P F g (pre++.oc b off n c sz :: post) (cJ σ b (.row (es++List.replicate (c-n) (ef sz)) fz)) K):iZ P F g args σ K:=by
 subst ha;intro X base β w vs h1 h2 h3 fr cs h4;have hk:=h3 pre.length (by simp);rw[vW,if_neg (jF _),dF,aV]at hk;rcases hk.tV with⟨rfl,_⟩|⟨L,cap,hL,ko,j8,AL,hv⟩
 ·exact absurd hn (jF _)
 have hm:∀L o,(bS.row (es++List.replicate (cap-n) (ef sz)) fz).mut L o↔(bS.row es fz).mut L o:=λ_ _=>Iff.rfl;have hM:MT X (cJ σ b (.row (es++List.replicate (cap-n) (ef sz)) fz)) β=MT X σ β:=funext λg=>funext λo=>propext (by unfold MT;rw[Cu hb hm]);have hr:=h1.w9 hb hm (λM L' hL' jB=>by
  obtain rfl:=aS (hL.symm.trans hL');obtain⟨c,e,g1,g2,g3,g4,g5⟩:=jB;refine⟨c,e,g1,g2,by simp only[aA,bJ];omega,λi hi=>?_,λi j hi hj=>?_⟩
  ·rw[vW];split
   ·exact g4 i (by assumption)
   ·simp only[aA,bJ]at hi;rw[show(List.replicate (cap-n) (ef sz)).getD (i-es.length) ah.undef=ef sz by simp[List.getD,show i-es.length<cap-n by omega],Yjf,ko]
  ·rw[vW];split
   ·exact g5 i j (by assumption) hj
   ·simp only[aA,bJ]at hi;rw[show(List.replicate (cap-n) (ef sz)).getD (i-es.length) ah.undef=ef sz by simp[List.getD,show i-es.length<cap-n by omega],Ygp];exact .undef _)
 obtain ⟨r,σ',β',v,w',q,g1,g2,g3,g4,g5⟩:=h cap j8 X base β w vs hr (by simpa using h2) (λk hk=>by
  have eZ:k<(pre++.os b off n sz :: post).length:=by simpa using hk
  have:=h3 k eZ;rw[hM];by_cases e:k=pre.length
  ·subst e;rw[vW,if_neg (jF _),dF,aV]at this ⊢;rw[hv,<-ko];exact .oc hL j8 AL
  ·rw[vW]at this ⊢;split
   ·rename_i bx;rw[if_pos bx]at this;exact this
   ·rename_i bx;rw[if_neg bx]at this;obtain⟨m,hm⟩:∃m,k-pre.length=m+1:=⟨k-pre.length-1,by omega⟩;rw[hm,bE]at this ⊢;exact this) fr cs h4
 exact⟨r,σ',β',v,w',q,g1,g2,by rw[Gu hb]at g3;exact g3.w9 hb hm,by rw[Gu hb]at g4;exact g4,g5⟩
def Bv (K:ah->av->Prop)(b:Nat)(r:ah)(σ':av):Prop:=∃es fz m,bW σ' b=some (.row es fz)/\K (tU r) (cJ σ' b (.row (es.take m) fz))
theorem cj.short {F:Frame->List Frame->Sem Next->World->Value->World->Prop} {g:FuncId} {args:List ah} {K:ah->av->Prop} (b:Nat)
  (h:iZ P F g args σ (Bv K b)):iZ P F g args σ K:=by
 intro X base β w vs h1 h2 h3 fr cs h4;obtain⟨r,σ',β',v,w',⟨es,fz,m,hb,q⟩,g1,g2,g3,g4,g5⟩:=h X base β w vs h1 h2 h3 fr cs h4;have hm:∀L o,(bS.row (es.take m) fz).mut L o↔(bS.row es fz).mut L o:=λ_ _=>Iff.rfl;have hM:MT X (cJ σ' b (.row (es.take m) fz)) β'=MT X σ' β':=funext λg=>funext λo=>propext (by unfold MT;rw[Cu hb hm]);refine⟨tU r,_,β',v,w',q,g1.w9 hb hm (λM L hL jB=>?_),by rw[hM];exact S3 g2,⟨g3.os,g3.tape,g3.output,g3.size,g3.cell,g3.block,λg o hx=>g3.jq g o ((Cu hb hm).1 hx),g3.env⟩,by rw[Gu hb];exact g4,g5⟩;obtain⟨c,e,k1,k2,k3,k4,k5⟩:=jB;have hg:∀i,i<(es.take m).length->(es.take m).getD i ah.undef=es.getD i .undef:=λi hi=>by
  rw[bN]at hi;simp[List.getD,show i<m by omega]
 have hl:(es.take m).length<=es.length:=by rw[bN];omega
 exact⟨c,e,k1,k2,by omega,λi hi=>by rw[hg i hi];exact k4 i (by omega),λi j hi hj=>by rw[hg i hi];exact k5 i j (by omega) hj⟩
theorem cj.pW {g:FuncId} {fn:Func} {c:Code} {args:List ah} {K:ah->av->Prop} {m:Nat} {rs:List ResultVar} (n:Nat) (hf:P.funcs[g]? = some fn) (hb:fn.body=some c) (hr:fn.results.toList=rs) (hm:fn.ntmps-args.length=m)
  (fe : (fn.name == "runtime.NumGoroutine") = false)
  (h:fx P ⟨σ.length,none⟩ (rL P rs (mI K σ.length)) n [.code c] .normal (args++List.replicate m .undef) σ):cj P g args σ K:=cj.drop (cj.start n hf hb hr hm fe h)
theorem Kq {K:ah->av->Prop}{b:Nat}{r:ah}{σ':av}:Bv K b r σ' = ∃es fz m,bW σ' b=some (.row es fz)/\K (tU r) (cJ σ' b (.row (es.take m) fz)):=rfl
end
end Go.dq
