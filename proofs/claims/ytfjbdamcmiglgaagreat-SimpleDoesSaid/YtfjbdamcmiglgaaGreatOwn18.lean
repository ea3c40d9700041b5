/- Part 18 of what the claim rests on. -/
import Derived.Test.YtfjbdamcmiglgaaGreatOwn17
set_option linter.all false
namespace Go.dq
open Go
section
variable {P:Program}{lo:Ctx}{Q:cB->St->Prop}{n:Nat}{k:List KI}{tm:List ah}{σ:av}{all:Array Oper}{l:List Oper}
theorem Xc6 {e:cB}:fx P lo Q (n+1) [] e tm σ=Q e ⟨tm,σ⟩:=(Eq.refl _).trans rfl
theorem Yxt:fx P lo Q (n+1) (.code .skip :: k) .normal tm σ=fx P lo Q n k .normal tm σ:=(Eq.refl _).trans rfl
theorem Xbm {a b:Code}:fx P lo Q (n+1) (.code (.seq a b):: k) .normal tm σ=fx P lo Q n (.code a :: .code b :: k) .normal tm σ:=(Eq.refl _).trans rfl
theorem Yzs {c:Operand}{a b:Code}:fx P lo Q (n+1) (.code (.cond c a b):: k) .normal tm σ=BU P lo Q n (ev tm c) a b k tm σ:=(Eq.refl _).trans rfl
theorem Yuk {id:Nat}{c:Code}:fx P lo Q (n+1) (.code (.block id c):: k) .normal tm σ=fx P lo Q n (.code c :: .cG id :: k) .normal tm σ:=(Eq.refl _).trans rfl
theorem Yph {id:Nat}{ops:Array Oper}:fx P lo Q (n+1) (.code (.region id ops false):: k) .normal tm σ=fx P lo Q n (.ops ops ops.toList :: k) .normal tm σ:=(Eq.refl _).trans rfl
theorem Yzr {id:Nat}{ops:Array Oper}:fx P lo Q (n+1) (.code (.region id ops true):: k) .normal tm σ=aC P lo Q (.code (.region id ops true):: k) .normal ⟨tm,σ⟩:=(Eq.refl _).trans rfl
theorem Xa6 {id:Nat}:fx P lo Q (n+1) (.code (.exit id):: k) .normal tm σ=fx P lo Q n k (.exit id) tm σ:=(Eq.refl _).trans rfl
theorem Xbn:fx P lo Q (n+1) (.code .ret :: k) .normal tm σ=fx P lo Q n k .ret tm σ:=(Eq.refl _).trans rfl
theorem Yu2 {c:Code}:fx P lo Q (n+1) (.code (.scope c):: k) .normal tm σ=fx P lo Q n (.code c :: .Ds :: k) .normal tm σ:=(Eq.refl _).trans rfl
theorem Yuo {i:Nat}:fx P lo Q (n+1) (.code (.label i):: k) .normal tm σ=fx P lo Q n k .normal tm σ:=(Eq.refl _).trans rfl
theorem Ywa {c:Code}:fx P lo Q (n+1) (.code (.loop c):: k) .normal tm σ=aC P lo Q (.code (.loop c):: k) .normal ⟨tm,σ⟩:=(Eq.refl _).trans rfl
theorem Zvt {f:Operand}{ps:Array Tmp}{a b:Code}:fx P lo Q (n+1) (.code (.rangeFunc f ps a b):: k) .normal tm σ=aC P lo Q (.code (.rangeFunc f ps a b):: k) .normal ⟨tm,σ⟩:=(Eq.refl _).trans rfl
theorem Zw4 {c:Code}{i:Nat}:fx P lo Q (n+1) (.code c :: k) (.exit i) tm σ=fx P lo Q n k (.exit i) tm σ:=(Eq.refl _).trans rfl
theorem Yc7 {c:Code}:fx P lo Q (n+1) (.code c :: k) .ret tm σ=fx P lo Q n k .ret tm σ:=(Eq.refl _).trans rfl
theorem Yea:fx P lo Q (n+1) (.ops all [] :: k) .normal tm σ=fx P lo Q n k .normal tm σ:=(Eq.refl _).trans rfl
theorem Ycd {o:Oper}:fx P lo Q (n+1) (.ops all (o :: l):: k) .normal tm σ=BV P lo Q n (nc all tm o) all o l k tm σ:=(Eq.refl _).trans rfl
theorem Zvb {id:Nat}:fx P lo Q (n+1) (.cG id :: k) .normal tm σ=fx P lo Q n k .normal tm σ:=(Eq.refl _).trans rfl
theorem Yil {id:Nat}:fx P lo Q (n+1) (.cG id :: k) .ret tm σ=fx P lo Q n k .ret tm σ:=(Eq.refl _).trans rfl
theorem Yc8 {id i:Nat}:fx P lo Q (n+1) (.cG id :: k) (.exit i) tm σ=(if i=id then fx P lo Q n k .normal tm σ else fx P lo Q n k (.exit i) tm σ):=(Eq.refl _).trans rfl
theorem Yh4:fx P lo Q (n+1) (.Ds :: k) .ret tm σ=fx P lo Q n k .ret tm σ:=(Eq.refl _).trans rfl
theorem Yc3 {i:Nat}:fx P lo Q (n+1) (.Ds :: k) (.exit i) tm σ=fx P lo Q n k (.exit i) tm σ:=(Eq.refl _).trans rfl
theorem Yyg {a b:Code}:BU P lo Q (n+1) (.bool true) a b k tm σ=fx P lo Q n (.code a :: k) .normal tm σ:=by simp[BU]
theorem Yuf {a b:Code}:BU P lo Q (n+1) (.bool false) a b k tm σ=fx P lo Q n (.code b :: k) .normal tm σ:=by simp[BU]
theorem Xbe {a b:Code}:BU P lo Q (n+1) .jL a b k tm σ=(fx P lo Q n (.code a :: k) .normal tm σ/\fx P lo Q n (.code b :: k) .normal tm σ):=(Eq.refl _).trans rfl
theorem Yxd {t:Bool}{a b:Code}:BU P lo Q (n+1) (.bool t) a b k tm σ=((t=true->fx P lo Q n (.code a :: k) .normal tm σ)/\(t=false->fx P lo Q n (.code b :: k) .normal tm σ)):=(Eq.refl _).trans rfl
theorem Yzf {o:Oper}:BV P lo Q (n+1) (some true) all o l k tm σ=pb P lo Q n o all l k tm σ:=by simp[BV]
theorem Yse {o:Oper}:BV P lo Q (n+1) (some false) all o l k tm σ=fx P lo Q n (.ops all l :: k) .normal (put tm o.dst gone) σ:=by simp[BV]
theorem Yxj {o:Oper}{g:Bool}:BV P lo Q (n+1) (some g) all o l k tm σ=((g=true->pb P lo Q n o all l k tm σ)/\(g=false->fx P lo Q n (.ops all l :: k) .normal (put tm o.dst gone) σ)):=(Eq.refl _).trans rfl
def Aj (P:Program)(lo:Ctx)(Q:cB->St->Prop)(b:Bool)(d:Option Tmp)(f:ah)(args:List ah)(all:Array Oper)(l:List Oper)(k:List KI)(tm:List ah)(σ:av):Prop :=
 if b=true then xr P f args σ (λr σ'=>aC P lo Q (.ops all l :: k) .normal ⟨put tm d r,σ'⟩) (λu σ'=>aC P lo Q k (.panic u) ⟨tm,σ'⟩)
 else ak P f args σ λr σ'=>aC P lo Q (.ops all l :: k) .normal ⟨put tm d r,σ'⟩
theorem Yzc {d:Option Tmp} {f:Operand} {args:Array Operand} {ts:Array TypeId} {t:TypeId} {p:String} {a:Array Edge} {g:Option (Nat×Bool)} :
  pb P lo Q (n+1) ⟨d,.call ⟨.value f,args,ts⟩,t,p,a,g⟩ all l k tm σ=Aj P lo Q (mW k) d (ev tm f) (args.toList.map (ev tm)) all l k tm σ:=(Eq.refl _).trans rfl
theorem Xbx {d:Option Tmp}{f:ah}{args:List ah}:Aj P lo Q false d f args all l k tm σ=ak P f args σ λr σ'=>aC P lo Q (.ops all l :: k) .normal ⟨put tm d r,σ'⟩:=by simp[Aj]
theorem Yw0:mW []=false:=(Eq.refl _).trans rfl
theorem Yr8 {c:Code}:mW (.code c :: k)=mW k:=(Eq.refl _).trans rfl
theorem Yzg {i:Nat}:mW (.cG i :: k)=mW k:=(Eq.refl _).trans rfl
theorem Yvk:mW (.Ds :: k)=mW k:=(Eq.refl _).trans rfl
end
def Sj:Op->Bool
 |.call ⟨.value _,_,_⟩=>true
 |.panic _=>true
 |.next _ false=>true
 |_=>false
section
variable {P:Program}{lo:Ctx}{Q:cB->St->Prop}{n:Nat}{k:List KI}{tm:List ah}{σ:av}{all:Array Oper}{l:List Oper}
theorem Yzq {r:ah}{σ':av}{dst:Option Tmp}:oO P lo Q (n+1) (some (r,σ')) dst all l k tm=fx P lo Q n (.ops all l :: k) .normal (put tm dst r) σ':=(Eq.refl _).trans rfl
theorem UK {dst:Option Tmp}:oO P lo Q n none dst all l k tm=False:=by cases n<;>rfl
theorem MV {c:Prop}[Decidable c]{x:Option (ah×av)}{dst:Option Tmp}:oO P lo Q n (if c then x else none) dst all l k tm=(c/\oO P lo Q n x dst all l k tm):=by
 by_cases h:c<;>simp[h,UK]
theorem Zx5 {α β:Type}{c:Prop}[Decidable c]{x:Option α}{f : α->Option β}:(if c then x else none).bind f=if c then x.bind f else none:=by split<;>rfl
theorem Ybh {α β:Type}{c:Prop}[Decidable c]{x:Option α}{f : α->β}:(if c then x else none).map f=if c then x.map f else none:=by split<;>rfl
theorem Ymh {tm:List ah}{d:Option Tmp}{op:Op}{t:TypeId}{p:String}{a:Array Edge}:nc all tm ⟨d,op,t,p,a,none⟩=some true:=(Eq.refl _).trans rfl
def Hd (want:Bool):Option ah->Option Bool
 |some (.bool b)=>some (b==want)
 |some (.qf v)=>if yG v then none else some false
 |_=>none
def Qz (tm:List ah)(want:Bool):Option Tmp->Option Bool
 |some d=>Hd want (tm[d]?)
 |none=>none
theorem Yl4 {tm:List ah} {d:Option Tmp} {op:Op} {t:TypeId} {p:String} {a:Array Edge} {j:Nat} {want:Bool}:nc all tm ⟨d,op,t,p,a,some (j,want)⟩=Qz tm want ((all.toList[j]?).bind (·.dst)):=by
 simp only[nc,Qz,fQ];cases(all[j]?.bind (·.dst)) with
 |none=>rfl
 |some d =>
  simp only[Hd];cases tm[d]? with
  |none=>rfl
  |some v=>cases v<;>rfl
theorem Ynv {d:Tmp}{want:Bool}:Qz tm want (some d)=Hd want (tm[d]?):=(Eq.refl _).trans rfl
theorem Ymq {want:Bool}:Hd want (some gone)=some false:=rfl
theorem Xa7 {t:Tmp}:ev tm (.tmp t)=tm.getD t .undef:=(Eq.refl _).trans rfl
theorem Yl5 {v:Value}:ev tm (.const v)=ofValue v:=(Eq.refl _).trans rfl
theorem Ytg {f:FuncId}:ev tm (.func f)=.fn f [] []:=(Eq.refl _).trans rfl
theorem Ytn {b:Bool}:ofValue (.bool b)=.bool b:=(Eq.refl _).trans rfl
theorem Ywj {k:IntKind}{n:Int}:ofValue (.int k n)=.int k n:=(Eq.refl _).trans rfl
theorem Yzh {s:ByteArray}:ofValue (.string s)=.str s:=(Eq.refl _).trans rfl
theorem Ys6:ofValue (.slice none 0 0)=.a8:=(Eq.refl _).trans rfl
theorem Yfb:ofValue (.map none)=.dj:=(Eq.refl _).trans rfl
theorem Ylm:ofValue .nilFunc=.fU:=(Eq.refl _).trans rfl
theorem Ym7 {d:Tmp}{v:ah}:put tm (some d) v=tm.set d v:=(Eq.refl _).trans rfl
theorem Ymu {v:ah}:put tm none v=tm:=(Eq.refl _).trans rfl
theorem Ye0 {cs:List ah}:(ah.agg cs).cells=cs:=(Eq.refl _).trans rfl
theorem YC {k:IntKind}{n:Int}:(ah.int k n).cells=[.int k n]:=(Eq.refl _).trans rfl
theorem Ycg {b:Bool}:(ah.bool b).cells=[.bool b]:=(Eq.refl _).trans rfl
theorem Ygk {b:ByteArray}:(ah.str b).cells=[.str b]:=(Eq.refl _).trans rfl
theorem Yfz {b o:Nat}:(ah.ptr b o).cells=[.ptr b o]:=(Eq.refl _).trans rfl
theorem Ycb:ah.a8.cells=[.a8]:=(Eq.refl _).trans rfl
theorem Yks {sz:Nat}{es:List ah}:(ah.ps sz es).cells=[.ps sz es]:=(Eq.refl _).trans rfl
theorem Ym9 {b o m s:Nat}:(ah.os b o m s).cells=[.os b o m s]:=(Eq.refl _).trans rfl
theorem Ylp {f:FuncId}{x y:List ah}:(ah.fn f x y).cells=[.fn f x y]:=(Eq.refl _).trans rfl
theorem Yij {b:Nat}:(ah.map b).cells=[.map b]:=(Eq.refl _).trans rfl
theorem Yp6 {x y:List ah}:(ah.pm x y).cells=[.pm x y]:=(Eq.refl _).trans rfl
theorem Yp1 {k:IntKind}{n:Int}:(ah.int k n).dy=true:=(Eq.refl _).trans rfl
theorem Ygh {b:Bool}:(ah.bool b).dy=true:=(Eq.refl _).trans rfl
theorem Yp4 {b:ByteArray}:(ah.str b).dy=true:=(Eq.refl _).trans rfl
theorem Yoa {b o:Nat}:(ah.ptr b o).dy=true:=(Eq.refl _).trans rfl
theorem Yg3:ah.a8.dy=true:=(Eq.refl _).trans rfl
theorem Yt3 {sz:Nat}{es:List ah}:(ah.ps sz es).dy=true:=(Eq.refl _).trans rfl
theorem Yvh {b o m s:Nat}:(ah.os b o m s).dy=true:=(Eq.refl _).trans rfl
theorem Yrp {f:FuncId}{x y:List ah}:(ah.fn f x y).dy=true:=(Eq.refl _).trans rfl
theorem Ypo {b:Nat}:(ah.map b).dy=true:=(Eq.refl _).trans rfl
theorem Yve {x y:List ah}:(ah.pm x y).dy=true:=(Eq.refl _).trans rfl
theorem Yr0 {cs:List ah}:c_ (.agg cs)=true:=(Eq.refl _).trans rfl
theorem Yrq {k:IntKind}{n:Int}:c_ (.int k n)=false:=(Eq.refl _).trans rfl
theorem Ykx {b:Bool}:c_ (.bool b)=false:=(Eq.refl _).trans rfl
theorem Yzm {sz:Nat}{es:List ah}:c_ (.ps sz es)=false:=(Eq.refl _).trans rfl
theorem Yyx {b o m s:Nat}:c_ (.os b o m s)=false:=(Eq.refl _).trans rfl
theorem Ypq:c_ .a8=false:=(Eq.refl _).trans rfl
theorem Yh8 {x:Option bS}{σ:av}:bW (x :: σ) 0=x:=by simp[bW]
theorem Yha {x:Option bS}{σ:av}{b:Nat}:bW (x :: σ) (b+1)=bW σ b:=by simp[bW]
theorem Zr5 {y:bS}:cJ [] 0 y=[some y]:=(Eq.refl _).trans rfl
theorem Ygy {x:Option bS}{σ:av}{y:bS}:cJ (x :: σ) 0 y=some y :: σ:=by simp[cJ]
theorem Yhx {x:Option bS}{σ:av}{b:Nat}{y:bS}:cJ (x :: σ) (b+1) y=x :: cJ σ b y:=by
 simp only[cJ,aq,Nat.add_lt_add_iff_right];split
 ·simp
 ·simp
def Bl (l:fL)(off:Nat):Option bS->Option ah
 |some (.var cs)=>lq l (cs.drop off)
 |_=>none
def vO (l:fL)(i f:Nat):Option bS->Option ah
 |some (.row es _)=>if i<es.length then lq l ((es.getD i .undef).cells.drop f) else none
 |_=>none
theorem Ypk {l:fL}{b off:Nat}:jW σ l (.ptr b off)=Bl l off (bW σ b):=by
 simp only[jW,Bl];cases bW σ b with|none=>rfl|some x=>cases x<;>rfl
theorem Yu6 {l:fL}{b i f:Nat}:jW σ l (.rp b i f)=vO l i f (bW σ b):=by
 simp only[jW,vO];cases bW σ b with|none=>rfl|some x=>cases x<;>rfl
theorem Yu1 {l:fL}{cs:List ah}:jW σ l (.pp cs)=lq l cs:=(Eq.refl _).trans rfl
theorem Yiu {l:fL}{off:Nat}{cs:List ah}:Bl l off (some (.var cs))=lq l (cs.drop off):=(Eq.refl _).trans rfl
theorem Zxz {l:fL}{i f fz:Nat}{es:List ah}:vO l i f (some (.row es fz))=if i<es.length then lq l ((es.getD i .undef).cells.drop f) else none:=(Eq.refl _).trans rfl
theorem Yn9 {sz b:Nat}{z:List ah}{key:KA}{cs:List ah}:lq ⟨sz,true,b,z,key⟩ cs=if sz<=cs.length then some (.agg (cs.take sz)) else none:=(Eq.refl _).trans rfl
theorem Yl6 {sz b:Nat}{z:List ah}{key:KA}{c:ah}{cs:List ah}:lq ⟨sz,false,b,z,key⟩ (c :: cs)=some c:=(Eq.refl _).trans rfl
def ye (sz off:Nat)(v:ah)(σ:av)(b:Nat):Option bS->Option av
 |some (.var cs)=>if off+sz<=cs.length then some (cJ σ b (.var (cO cs off v.cells))) else none
 |_=>none
def uf (sz i f:Nat) (v:ah) (σ:av) (b:Nat):Option bS->Option av
 | some (.row es fz)=>if fz<=i/\i<es.length/\f+sz<=(es.getD i .undef).cells.length/\0<sz then
   some (cJ σ b (.row (es.set i (jl (c_ (es.getD i .undef)) (cO (es.getD i .undef).cells f v.cells))) fz)) else none
 |_=>none
theorem Yjw {l:fL}{b off:Nat}{v:ah}:nX σ l (.ptr b off) v=if v.cells.length=l.sz/\v.cells.all ah.dy=true then ye l.sz off v σ b (bW σ b) else none:=by
 simp only[nX,ye];split
 ·cases bW σ b with|none=>rfl|some x=>cases x<;>rfl
 ·rfl
theorem Ylb {l:fL}{b i f:Nat}{v:ah}:nX σ l (.rp b i f) v=if v.cells.length=l.sz/\v.cells.all ah.dy=true then uf l.sz i f v σ b (bW σ b) else none:=by
 simp only[nX,uf];split
 ·cases bW σ b with|none=>rfl|some x=>cases x<;>rfl
 ·rfl
theorem Yb9 {sz off b:Nat}{v:ah}{cs:List ah}:ye sz off v σ b (some (.var cs))=if off+sz<=cs.length then some (cJ σ b (.var (cO cs off v.cells))) else none:=(Eq.refl _).trans rfl
theorem Zul {sz i f b fz:Nat} {v:ah} {es:List ah}:uf sz i f v σ b (some (.row es fz))=if fz<=i/\i<es.length/\f+sz<=(es.getD i .undef).cells.length/\0<sz then
   some (cJ σ b (.row (es.set i (jl (c_ (es.getD i .undef)) (cO (es.getD i .undef).cells f v.cells))) fz)) else none:=(Eq.refl _).trans rfl
theorem Zvy {cs:List ah}{o:Nat}:cO cs o []=cs:=(Eq.refl _).trans rfl
theorem Ztq {cs vs:List ah}{o:Nat}{v:ah}:cO cs o (v :: vs)=cO (cs.set o v) (o+1) vs:=(Eq.refl _).trans rfl
theorem Ydk {c:ah}{cs:List ah}:jl false (c :: cs)=c:=(Eq.refl _).trans rfl
end
def wI:ah->Nat->Option ah
 |.ptr b o,off=>some (.ptr b (o+off))
 |.rp b i f,off=>some (.rp b i (f+off))
 |.pp cs,off=>some (.pp (cs.drop off))
 |_,_=>none
def Qx (x:ah):Option (Nat×Option fL)->Option ah
 |some (off,some l)=>if l.sz≠0 then wI x off else none
 |_=>none
section
variable {sz bs:Nat}{ag:Bool}{z:List ah}{fl:List (Nat×Option fL)}{e kt:Option fL}{x y:ah}{i:Nat}
theorem Zro:kK ⟨⟨sz,ag,bs,z,.struct⟩,fl,e,kt⟩ x i=Qx x fl[i]?:=by
 simp only[kK,kG.kind];rcases fl[i]? with _|⟨off,_|l⟩
 ·rfl
 ·rfl
 ·simp only[Qx];cases x<;>rfl
theorem Yn8 {off:Nat}{l:fL}:Qx x (some (off,some l))=if l.sz≠0 then wI x off else none:=(Eq.refl _).trans rfl
theorem Yia {b o off:Nat}:wI (.ptr b o) off=some (.ptr b (o+off)):=(Eq.refl _).trans rfl
theorem Yo3 {b i f off:Nat}:wI (.rp b i f) off=some (.rp b i (f+off)):=(Eq.refl _).trans rfl
theorem Ypb {cs:List ah}{off:Nat}:wI (.pp cs) off=some (.pp (cs.drop off)):=(Eq.refl _).trans rfl
def IV (cs:List ah):Option (Nat×Option fL)->Option ah
 |some (off,some l)=>lq l (cs.drop off)
 |_=>none
theorem Yhz {cs:List ah}:ru ⟨⟨sz,ag,bs,z,.struct⟩,fl,e,kt⟩ (.agg cs) i=IV cs fl[i]?:=by
 simp only[ru,kG.kind];rcases fl[i]? with _|⟨off,_|l⟩<;>rfl
theorem Ygt {cs:List ah}{off:Nat}{l:fL}:IV cs (some (off,some l))=lq l (cs.drop off):=(Eq.refl _).trans rfl
theorem Xc7 {l:fL}{b off n s:Nat}{k:IntKind}{i:Int}:gw ⟨⟨sz,ag,bs,z,.slice⟩,fl,some l,kt⟩ (.os b off n s) (.int k i)=if l.sz=s/\0<=i/\i<n then some (.rp b (off+i.toNat) 0) else none:=by
 simp[gw,kG.kind,kG.xh]
theorem Xaz {l:fL}{b off n c s:Nat}{k:IntKind}{i:Int}:gw ⟨⟨sz,ag,bs,z,.slice⟩,fl,some l,kt⟩ (.oc b off n c s) (.int k i)=if l.sz=s/\0<=i/\i<n then some (.rp b (off+i.toNat) 0) else none:=by
 simp[gw,kG.kind,kG.xh]
theorem Xca {l:fL}{s:Nat}{es:List ah}{k:IntKind}{i:Int}:gw ⟨⟨sz,ag,bs,z,.slice⟩,fl,some l,kt⟩ (.ps s es) (.int k i)=if l.sz=s/\0<=i/\i<es.length then some (.pp (es.getD i.toNat .undef).cells) else none:=by
 simp[gw,kG.kind,kG.xh]
theorem Yxw {l:fL}{b off m:Nat}{k:IntKind}{i:Int}:gw ⟨⟨sz,ag,bs,z,.array m⟩,fl,some l,kt⟩ (.ptr b off) (.int k i)=if 0<=i/\i<m then some (.ptr b (off+i.toNat*l.sz)) else none:=(Eq.refl _).trans rfl
def Dl (k:KA)(σ:av)(x:ah):Option (ah×av) :=
 match k with
 |.array n=>some (.int .i64 n,σ)
 |.str|.slice|.map=>(qd k σ x).map λ(n:Nat)=>(ah.int .i64 (n:Int),σ)
 |_=>none
theorem Yry {P:Program}{op:BinOp}{t:TypeId}{k k':IntKind}{a b:Int}:uA P op t (.int k a) (.int k' b)=if k=k' then kb op k a b else none:=(Eq.refl _).trans rfl
theorem Yrk {P:Program}{op:BinOp}{t:TypeId}{a b:ByteArray}:uA P op t (.str a) (.str b)=rN op a b:=(Eq.refl _).trans rfl
theorem Ylq {P:Program}{op:BinOp}{t:TypeId}{a b:Bool}:uA P op t (.bool a) (.bool b)=nL P op t (.bool a) (.bool b):=(Eq.refl _).trans rfl
theorem Ysv {P:Program}{op:BinOp}{t:TypeId}{a b:List ah}:uA P op t (.agg a) (.agg b)=nL P op t (.agg a) (.agg b):=(Eq.refl _).trans rfl
theorem Ybe {P:Program}{op:BinOp}{t:TypeId}{ks vs:List ah}:uA P op t (.pm ks vs) .dj=nL P op t (.pm ks vs) .dj:=(Eq.refl _).trans rfl
theorem Zxe {P:Program}{op:BinOp}{t:TypeId}:uA P op t .dj .dj=nL P op t .dj .dj:=(Eq.refl _).trans rfl
theorem Xat {ks vs:List ah}:nU (.pm ks vs)=some true:=(Eq.refl _).trans rfl
theorem Xa4:nU .dj=some false:=(Eq.refl _).trans rfl
theorem Yy5 {k:IntKind}{a b:Int}:kb .add k a b=some (.int k (k.wrap (a+b))):=(Eq.refl _).trans rfl
theorem Yw8 {k:IntKind}{a b:Int}:kb .sub k a b=some (.int k (k.wrap (a-b))):=(Eq.refl _).trans rfl
theorem Yvw {k:IntKind}{a b:Int}:kb .mul k a b=some (.int k (k.wrap (a*b))):=(Eq.refl _).trans rfl
theorem Yya {k:IntKind}{a b:Int}:kb .eql k a b=some (.bool (decide (a=b))):=(Eq.refl _).trans rfl
theorem Yzl {k:IntKind}{a b:Int}:kb .neq k a b=some (.bool (decide (a≠b))):=(Eq.refl _).trans rfl
theorem Yxs {k:IntKind}{a b:Int}:kb .lss k a b=some (.bool (decide (a<b))):=(Eq.refl _).trans rfl
theorem Yyn {k:IntKind}{a b:Int}:kb .leq k a b=some (.bool (decide (a<=b))):=(Eq.refl _).trans rfl
theorem Yx1 {k:IntKind}{a b:Int}:kb .gtr k a b=some (.bool (decide (b<a))):=(Eq.refl _).trans rfl
theorem Yxb {k:IntKind}{a b:Int}:kb .geq k a b=some (.bool (decide (b<=a))):=(Eq.refl _).trans rfl
theorem Yrt {P:Program}{t:TypeId}:nL P .eql t x y=(wH P t x y).map .bool:=(Eq.refl _).trans rfl
theorem Ytw {P:Program}{t:TypeId}:nL P .neq t x y=(wH P t x y).map λb=>.bool !b:=(Eq.refl _).trans rfl
def CW (P:Program) (t:TypeId) (x y:ah):Option KA->Option Bool
 |some .bool=>match x,y with
  |.bool a,.bool b=>some (a==b)
  |_,_=>none
 |some .ptr=>match pc x,pc y with
  |some false,some b=>some (!b)
  |some true,some false=>some false
  |_,_=>none
 |some .map=>match y with
  |.dj=>(nU x).map (!·)
  |_=>none
 |some .iface=>match lY x,lY y with
  |some true,some false|some false,some true=>some false
  |some false,some false=>if sR P t=true then some true else none
  |_,_=>none
 |some .func=>match nu x,nu y with
  |some false,some b=>some (!b)
  |some true,some false=>some false
  |_,_=>none
 |some .struct=>match x,y with
  |.agg xs,.agg ys=>if xs.map va=ys.map va/\Aq P t (xs.map va)=true then some (kS xs ys) else none
  |_,_=>none
 |_=>none
theorem Ype {P:Program}{t:TypeId}:wH P t x y=CW P t x y (kc P t):=by
 unfold wH;cases kc P t with
 |none=>rfl
 |some K=>cases K<;>(try rfl)<;>(cases x<;>(try rfl)<;>cases y<;>rfl)
theorem Ykr {P:Program}{t:TypeId}{a b:Bool}:CW P t (.bool a) (.bool b) (some .bool)=some (a==b):=(Eq.refl _).trans rfl
theorem Ybj {P:Program}{t:TypeId}{a b:List ah}:CW P t (.agg a) (.agg b) (some .struct)=if a.map va=b.map va/\Aq P t (a.map va)=true then some (kS a b) else none:=(Eq.refl _).trans rfl
theorem Ytp {P:Program}{t:TypeId}:CW P t x .dj (some .map)=(nU x).map (!·):=(Eq.refl _).trans rfl
theorem Ysr {k:IntKind}{a:Int}:va (.int k a)=.int k:=(Eq.refl _).trans rfl
theorem PL {a:ByteArray}:va (.str a)=.str:=(Eq.refl _).trans rfl
theorem Yn2 {a:Bool}:va (.bool a)=.bool:=(Eq.refl _).trans rfl
theorem Ywu {a b:ByteArray}:rN .eql a b=some (.bool (a.toList==b.toList)):=(Eq.refl _).trans rfl
theorem Ywi {b:Bool}:Kj .not (.bool b)=some (.bool !b):=(Eq.refl _).trans rfl
variable {σ:av}
theorem Ytb {s:ByteArray}:qd .str σ (.str s)=some s.size:=(Eq.refl _).trans rfl
theorem Yxx {s:Nat}{es:List ah}:qd .slice σ (.ps s es)=some es.length:=(Eq.refl _).trans rfl
theorem Yln:qd .slice σ .a8=some 0:=(Eq.refl _).trans rfl
theorem Ywm {b o n s:Nat}:qd .slice σ (.os b o n s)=some n:=(Eq.refl _).trans rfl
theorem Yvp {b o n c s:Nat}:qd .slice σ (.oc b o n c s)=some n:=(Eq.refl _).trans rfl
def Ga:Option bS->Option Nat
 |some (.map ks _ _)=>some ks.length
 |_=>none
theorem Ys1 {b:Nat}:qd .map σ (.map b)=Ga (bW σ b):=by
 simp only[qd,Ga];cases bW σ b with|none=>rfl|some x=>cases x<;>rfl
theorem Yig {ks vs:List ah}{f:Bool}:Ga (some (.map ks vs f))=some ks.length:=(Eq.refl _).trans rfl
theorem Xb7 {s sz:Nat}{es:List ah}:fO σ sz (.ps s es)=if s=sz then some es else none:=(Eq.refl _).trans rfl
def wG (off n:Nat):Option bS->Option (List ah)
 |some (.row es _)=>if off+n<=es.length then some ((es.drop off).take n) else none
 |_=>none
theorem Xc3 {sz b off n s:Nat}:fO σ sz (.os b off n s)=if s=sz then wG off n (bW σ b) else none:=by
 simp only[fO,wG];split
 ·cases bW σ b with|none=>rfl|some x=>cases x<;>rfl
 ·rfl
theorem Xb6 {sz b off n c s:Nat}:fO σ sz (.oc b off n c s)=if s=sz then wG off n (bW σ b) else none:=by
 simp only[fO,wG];split
 ·cases bW σ b with|none=>rfl|some x=>cases x<;>rfl
 ·rfl
theorem Ydc {off n fz:Nat}{es:List ah}:wG off n (some (.row es fz))=if off+n<=es.length then some ((es.drop off).take n) else none:=(Eq.refl _).trans rfl
def IJ (k:KA)(σ:av)(x:ah):Option (ah×av) :=
 match k with
 |.slice=>(xA x).map λ(n:Nat)=>(ah.int .i64 (n:Int),σ)
 |_=>none
theorem Yym {P:Program}{nm:Nat}{t:TypeId}:gp P σ nm .len [t] [x]=(gF P t).bind λT=>Dl T.kind σ x:=by
 rfl
theorem Yoo:Dl .str σ x=(qd .str σ x).map λ(n:Nat)=>(ah.int .i64 (n:Int),σ):=(Eq.refl _).trans rfl
theorem Ydj:Dl .slice σ x=(qd .slice σ x).map λ(n:Nat)=>(ah.int .i64 (n:Int),σ):=(Eq.refl _).trans rfl
theorem Yko:Dl .map σ x=(qd .map σ x).map λ(n:Nat)=>(ah.int .i64 (n:Int),σ):=(Eq.refl _).trans rfl
theorem Zy {L:fL}:kG.kind ⟨L,fl,e,kt⟩=L.key:=(Eq.refl _).trans rfl
def Af (σ:av) (nm:Nat) (e:fL) (s x:ah):KA->Option (ah×av)
 |.slice=>(fO σ e.sz x).bind λxs=>fm σ nm e s xs
 |.str=>match x with
  |.str y=>if e.sz=1 then fm σ nm e s (bytesOf y) else none
  |_=>none
 |.int _=>match x with
  |.int .i64 n=>if 0<=n/\n<=1000000000/\IntKind.i64.wrap n=n then fm σ nm e s (List.replicate n.toNat (zeroV e)) else none
  |_=>none
 |_=>none
theorem Yz2 {P:Program} {nm:Nat} {t u:TypeId} {s:ah}:gp P σ nm .append [t,u] [s,x]=(gF P t).bind λT=>(gF P u).bind λU=>match T.kind,T.elem with
  |.slice,some e=>Af σ nm e s x U.kind
  |_,_=>none:=by
 simp only[gp];congr;funext T;congr;funext U;cases T.kind<;>(try rfl)<;>cases T.elem<;>(try rfl)<;>cases U.kind<;>rfl
def IE (σ:av)(nm:Nat)(s x:ah)(U:kG):KA->Option fL->Option (ah×av)
 |.slice,some e=>Af σ nm e s x U.kind
 |_,_=>none
theorem Yhj {P:Program}{nm:Nat}{t u:TypeId}{s:ah}:gp P σ nm .append [t,u] [s,x]=(gF P t).bind λT=>(gF P u).bind λU=>IE σ nm s x U T.kind T.elem:=by
 rw[Yz2];congr
theorem Ycz {nm:Nat}{s:ah}{U:kG}{l:fL}:IE σ nm s x U .slice (some l)=Af σ nm l s x U.kind:=(Eq.refl _).trans rfl
theorem Ybb {nm:Nat}{l:fL}{s:ah}:Af σ nm l s x .slice=(fO σ l.sz x).bind λxs=>fm σ nm l s xs:=(Eq.refl _).trans rfl
theorem Yn3 {nm:Nat}{l:fL}{s:ah}{k:IntKind}{n:Int}:Af σ nm l s (.int .i64 n) (.int k)=if 0<=n/\n<=1000000000/\IntKind.i64.wrap n=n then fm σ nm l s (List.replicate n.toNat (zeroV l)) else none:=(Eq.refl _).trans rfl
theorem Yy7 {P:Program}{nm:Nat}{t:TypeId}:gp P σ nm .cap [t] [x]=(gF P t).bind λT=>IJ T.kind σ x:=by
 simp only[gp];congr
theorem Ybp:IJ .slice σ x=(xA x).map λ(n:Nat)=>(ah.int .i64 (n:Int),σ):=(Eq.refl _).trans rfl
theorem Ye7:xA .a8=some 0:=(Eq.refl _).trans rfl
theorem Yth {b o n c s:Nat}:xA (.oc b o n c s)=some c:=(Eq.refl _).trans rfl
def IL (σ:av)(x:ah):KA->Option fL->Option (ah×av)
 |.slice,some e=>(mB x).bind λn=>if n=0 then some (.dw [],σ) else (lK σ e.sz x (List.replicate n (zeroV e))).map (.dw [], ·)
 |_,_=>none
theorem Ykt {P:Program}{nm:Nat}{t:TypeId}:gp P σ nm .clear [t] [x]=(gF P t).bind λT=>IL σ x T.kind T.elem:=by
 simp only[gp];congr
theorem Ydp {l:fL}:IL σ x .slice (some l)=(mB x).bind λn=>if n=0 then some (.dw [],σ) else (lK σ l.sz x (List.replicate n (zeroV l))).map (.dw [], ·):=(Eq.refl _).trans rfl
def IP (σ:av)(d x:ah):KA->Option fL->KA->Option (ah×av)
 |.slice,some e,.slice=>(mB d).bind λn=>(fO σ e.sz x).bind λxs=>(lK σ e.sz d (xs.take n)).map (ah.int .i64 ((xs.take n).length:Int), ·)
 |_,_,_=>none
theorem Yr4 {P:Program}{nm:Nat}{t u:TypeId}{d:ah}:gp P σ nm .copy [t,u] [d,x]=(gF P t).bind λT=>(gF P u).bind λU=>IP σ d x T.kind T.elem U.kind:=by
 simp only[gp];congr
theorem Ybw {l:fL}{d:ah}:IP σ d x .slice (some l) .slice=(mB d).bind λn=>(fO σ l.sz x).bind λxs=>(lK σ l.sz d (xs.take n)).map (ah.int .i64 ((xs.take n).length:Int), ·):=(Eq.refl _).trans rfl
theorem Yss {b o n s:Nat}:mB (.os b o n s)=some n:=(Eq.refl _).trans rfl
theorem Yu4 {b o n c s:Nat}:mB (.oc b o n c s)=some n:=(Eq.refl _).trans rfl
def oK (sz:Nat)(xs:List ah):Prop:=∀x∈xs,x.cells.length=sz/\x.cells.all ah.dy=true
open Classical in
noncomputable def w8 (σ:av)(sz b off n zz:Nat)(xs:List ah):Option bS->Option av
 |some (.row es fz)=>if zz=sz/\0<sz/\fz<=off/\xs.length<=n/\off+n<=es.length/\oK sz xs then some (cJ σ b (.row (cO es off xs) fz)) else none
 |_=>none
theorem XA {sz:Nat}{xs:List ah}:xs.all (λx=>x.cells.length==sz&&x.cells.all ah.dy)=true↔oK sz xs:=by simp[oK]
theorem Xay {sz b off n s:Nat}{xs:List ah}:lK σ sz (.os b off n s) xs=w8 σ sz b off n s xs (bW σ b):=by
 simp only[lK,w8,<-XA];cases bW σ b with|none=>rfl|some x=>cases x<;>rfl
theorem Xas {sz b off n c s:Nat}{xs:List ah}:lK σ sz (.oc b off n c s) xs=w8 σ sz b off n s xs (bW σ b):=by
 simp only[lK,w8,<-XA];cases bW σ b with|none=>rfl|some x=>cases x<;>rfl
open Classical in
theorem Yct {sz b off n s fz:Nat}{xs es:List ah}:w8 σ sz b off n s xs (some (.row es fz))=if s=sz/\0<sz/\fz<=off/\xs.length<=n/\off+n<=es.length/\oK sz xs then some (cJ σ b (.row (cO es off xs) fz)) else none:=(Eq.refl _).trans rfl
def xx (σ:av) (nm:Nat) (e:fL) (b off n sz:Nat) (xs:List ah):Option bS->Option (ah×av)
 | some (.row es fz)=>if sz=e.sz/\fz<=off+n/\off+n<=es.length/\n+xs.length<=dc e.bytes then
         some (.os nm 0 (n+xs.length) sz,cJ (σ.set b none) nm (.row ((es.drop off).take n++xs) (fz-off)))
    else none
 |_=>none
def eE (e:fL)(xs:List ah):Prop:=(∀x∈xs,x.cells.length=e.sz/\x.cells.all ah.dy=true)/\0<e.sz/\e.bytes<=65536/\e.zero.length=e.sz
theorem Oo {e:fL}{xs:List ah}:(xs.all (λx=>x.cells.length==e.sz&&x.cells.all ah.dy)=true/\0<e.sz/\e.bytes<=65536/\e.zero.length=e.sz)↔eE e xs:=by
 simp[eE]
open Classical in
theorem Pb {nm:Nat}{l:fL}{xs:List ah}:fm σ nm l .a8 xs=if eE l xs then (if xs.length=0 then some (.a8,σ) else if xs.length<=dc l.bytes then some (.os nm 0 xs.length l.sz,cJ σ nm (.row xs 0)) else none) else none:=by
 unfold fm nK;simp only[<-Oo]
open Classical in
theorem M9 {nm:Nat}{l:fL}{xs:List ah}{b off n s:Nat}:fm σ nm l (.os b off n s) xs=if eE l xs then xx σ nm l b off n s xs (bW σ b) else none:=by
 unfold fm nK;simp only[<-Oo];split
 ·simp only[xx];cases bW σ b with|none=>rfl|some x=>cases x<;>rfl
 ·rfl
theorem NH {nm:Nat} {l:fL} {b off n s fz:Nat} {xs es:List ah}:xx σ nm l b off n s xs (some (.row es fz))=if s=l.sz/\fz<=off+n/\off+n<=es.length/\n+xs.length<=dc l.bytes then
     some (.os nm 0 (n+xs.length) s,cJ (σ.set b none) nm (.row ((es.drop off).take n++xs) (fz-off))) else none:=(Eq.refl _).trans rfl
def vB (σ:av) (nm b off n c sz Mg:Nat) (xs:List ah):Option bS->Option (ah×av)
 | some (.row es fz)=>if off+n<=es.length then
    if n+xs.length<=c then (if fz<=off+n/\off+n+xs.length<=es.length then some (.oc b off (n+xs.length) c sz,cJ σ b (.row (cO es (off+n) xs) fz)) else none)
    else if n+xs.length<=dc Mg then some (.os nm 0 (n+xs.length) sz,cJ σ nm (.row ((es.drop off).take n++xs) 0)) else none
   else none
 |_=>none
open Classical in
theorem Yvl {nm:Nat} {l:fL} {xs:List ah} {b off n c s:Nat}:fm σ nm l (.oc b off n c s) xs=if eE l xs/\s=l.sz then vB σ nm b off n c s l.bytes xs (bW σ b) else none:=by
 unfold fm o9;simp only[<-Oo];by_cases h1:(xs.all (λx=>x.cells.length==l.sz&&x.cells.all ah.dy)=true/\0<l.sz/\l.bytes<=65536/\l.zero.length=l.sz)
 ·simp only[h1,and_true,true_and,if_true];by_cases h2:s=l.sz
  ·simp only[h2,true_and,if_true,vB];cases bW σ b with|none=>rfl|some x=>cases x<;>rfl
  ·simp only[h2,false_and,if_false];cases bW σ b with|none=>rfl|some x=>cases x<;>rfl
 ·rw[if_neg h1,if_neg (λh=>h1 h.1)]
theorem Zsc {nm b off n c s Mg fz:Nat} {xs es:List ah}:vB σ nm b off n c s Mg xs (some (.row es fz))=if off+n<=es.length then
    if n+xs.length<=c then (if fz<=off+n/\off+n+xs.length<=es.length then some (.oc b off (n+xs.length) c s,cJ σ b (.row (cO es (off+n) xs) fz)) else none)
    else if n+xs.length<=dc Mg then some (.os nm 0 (n+xs.length) s,cJ σ nm (.row ((es.drop off).take n++xs) 0)) else none
   else none:=(Eq.refl _).trans rfl
theorem Yxc {P:Program}{nm:Nat}{ts:List TypeId}{rest:List ah}:gp P σ nm .max ts (x :: rest)=(iy (λa b=>if a<b then b else a) x rest).map (·,σ):=(Eq.refl _).trans rfl
theorem Yxq {f:Int->Int->Int}:iy f x []=some x:=by cases x<;>rfl
theorem Yso {f:Int->Int->Int}{k k':IntKind}{a b:Int}{rest:List ah}:iy f (.int k a) (.int k' b :: rest)=iy f (.int k (f a b)) rest:=(Eq.refl _).trans rfl
theorem Xbv {l0:fL}{s:Nat}{es:List ah}{lo hi:Option ah}:kh ⟨⟨sz,ag,bs,z,.slice⟩,fl,some l0,kt⟩ (.ps s es) lo hi none=if l0.sz=s then (zT es.length hi).bind λh=>(uw h lo).bind λl=>some (.ps s ((es.drop l).take (h-l))) else none:=by
 simp[kh,kG.kind,kG.xh]
theorem Xb5 {l0:fL}{b off n s:Nat}{lo hi:Option ah}:kh ⟨⟨sz,ag,bs,z,.slice⟩,fl,some l0,kt⟩ (.os b off n s) lo hi none=if l0.sz=s then (zT n hi).bind λh=>(uw h lo).bind λl=>some (.os b (off+l) (h-l) s) else none:=by
 simp[kh,kG.kind,kG.xh]
theorem Xbl {l0:fL}{b off n c s:Nat}{lo hi:Option ah}:kh ⟨⟨sz,ag,bs,z,.slice⟩,fl,some l0,kt⟩ (.oc b off n c s) lo hi none=if l0.sz=s then (FB n c hi).bind λh=>(uw h lo).bind λl=>some (.oc b (off+l) (h-l) (c-l) s) else none:=by
 simp[kh,kG.kind,kG.xh]
theorem Yvm {l0:fL} {b off n c s:Nat} {lo:Option ah} {k k':IntKind} {hi mx:Int}:kh ⟨⟨sz,ag,bs,z,.slice⟩,fl,some l0,kt⟩ (.oc b off n c s) lo (some (.int k hi)) (some (.int k' mx))=if l0.sz=s then (if (0:Int)<=mx/\mx<=c then (if (0:Int)<=hi/\hi<=mx.toNat then (uw hi.toNat lo).bind λl=>some (.oc b (off+l) (hi.toNat-l) (mx.toNat-l) s) else none) else none) else none:=by
 have e:∀(n:Nat) (k:IntKind) (i:Int),kz 0 n (.int k i)=if (0:Int)<=i/\i<=n then some i.toNat else none:=λn k i=>by simp[kz]
 simp only[kh,kG.kind,kG.xh,bD,true_and,aM];by_cases h1:l0.sz=s
 ·rw [if_pos h1,if_pos h1,e];by_cases h2:(0:Int)<=mx/\mx<=c
  ·rw[if_pos h2,if_pos h2,fq,fq,e];by_cases h3:(0:Int)<=hi/\hi<=mx.toNat
   ·rw[if_pos h3,if_pos h3,fq]
   ·rw[if_neg h3,if_neg h3];rfl
  ·rw[if_neg h2,if_neg h2];rfl
 ·rw[if_neg h1,if_neg h1]
theorem Ymx {n c:Nat}:FB n c none=some n:=(Eq.refl _).trans rfl
theorem Ynt {n c:Nat}{k:IntKind}{i:Int}:FB n c (some (.int k i))=if (0:Int)<=i/\i<=c then some i.toNat else none:=by simp[FB,kz]
theorem Ysz {l0:fL}{lo hi:Option ah}:kh ⟨⟨sz,ag,bs,z,.slice⟩,fl,some l0,kt⟩ .a8 lo hi none=(zT 0 hi).bind λh=>(uw h lo).bind λ_=>some .a8:=by
 simp[kh,kG.kind]
theorem Yt2 {n:Nat}:zT n none=some n:=(Eq.refl _).trans rfl
theorem Yqw {n:Nat}{k:IntKind}{i:Int}:zT n (some (.int k i))=if (0:Int)<=i/\i<=n then some i.toNat else none:=by simp[zT,kz]
theorem Yr3 {n:Nat}:uw n none=some 0:=(Eq.refl _).trans rfl
theorem Yqy {n:Nat}{k:IntKind}{i:Int}:uw n (some (.int k i))=if (0:Int)<=i/\i<=n then some i.toNat else none:=by simp[uw,kz]
theorem Yfl {ρ:Operand->ah}{parts:List (Nat×Operand)}:pX ⟨⟨sz,ag,bs,z,.struct⟩,fl,e,kt⟩ ρ parts=if fl.all (·.2.isSome)=true then (lI fl ρ z parts).map .agg else none:=(Eq.refl _).trans rfl
theorem Yml {l0:fL}{m:Nat}{ρ:Operand->ah}{parts:List (Nat×Operand)}:pX ⟨⟨sz,ag,bs,z,.array m⟩,fl,some l0,kt⟩ ρ parts=(lI ((List.range m).map λi=>(i*l0.sz,some l0)) ρ z parts).map .agg:=(Eq.refl _).trans rfl
def Au (qx:List (Nat×Option fL))(ρ:Operand->ah)(cs:List ah)(v:ah)(rest:List (Nat×Operand)):Option (Nat×Option fL)->Option (List ah)
 |some (off,some l)=>if v.cells.length=l.sz/\off+l.sz<=cs.length/\v.cells.all ah.dy=true then lI qx ρ (cO cs off v.cells) rest else none
 |_=>none
theorem Ymz {ρ:Operand->ah}{cs:List ah}:lI fl ρ cs []=some cs:=(Eq.refl _).trans rfl
theorem Ygx {ρ:Operand->ah}{cs:List ah}{i:Nat}{o:Operand}{rest:List (Nat×Operand)}:lI fl ρ cs ((i,o):: rest)=Au fl ρ cs (ρ o) rest fl[i]?:=by
 simp only[lI,Au];rcases fl[i]? with _|⟨off,_|l⟩<;>rfl
theorem Yc6 {ρ:Operand->ah}{cs:List ah}{v:ah}{rest:List (Nat×Operand)}{off:Nat}{l:fL}:Au fl ρ cs v rest (some (off,some l))=if v.cells.length=l.sz/\off+l.sz<=cs.length/\v.cells.all ah.dy=true then lI fl ρ (cO cs off v.cells) rest else none:=(Eq.refl _).trans rfl
theorem Yrv {l0:fL}{ρ:Operand->ah}{k:Nat}:rM l0 ρ k []=some []:=(Eq.refl _).trans rfl
theorem Ylz {l0:fL}{ρ:Operand->ah}{k i:Nat}{o:Operand}{rest:List (Nat×Operand)}:rM l0 ρ k ((i,o):: rest)=if i=k/\(ρ o).cells.length=l0.sz/\c_ (ρ o)=l0.ag/\(ρ o).cells.all ah.dy=true then (rM l0 ρ (k+1) rest).map (ρ o :: ·) else none:=(Eq.refl _).trans rfl
theorem Ywq {nm:Nat}{l0:fL}{l c:Int}:kM σ nm ⟨⟨sz,ag,bs,z,.slice⟩,fl,some l0,kt⟩ (.int .i64 l) (.int .i64 c)=if 0<=l/\l<=c/\c<=1000000000/\l0.bytes<=65536/\0<l0.sz/\l0.zero.length=l0.sz then some (.os nm 0 l.toNat l0.sz,cJ σ nm (.row (List.replicate l.toNat (zeroV l0)) 0)) else none:=(Eq.refl _).trans rfl
theorem Yyc {s b:Nat}{z:List ah}{k:KA}:zeroV ⟨s,true,b,z,k⟩=.agg z:=(Eq.refl _).trans rfl
theorem Ywf {s b:Nat}{c:ah}{z:List ah}{k:KA}:zeroV ⟨s,false,b,c :: z,k⟩=c:=(Eq.refl _).trans rfl
def SB (t u:TypeId)(x:ah)(ok:Bool)(l:fL):KA->Option ah
 |.iface=>none
 |_=>if t=u then some (if ok then .dw [x,.bool true] else x) else if ok then some (.dw [zeroV l,.bool false]) else none
theorem Ymk {P:Program}{u t:TypeId}{ok:Bool}:jY P (.iface t x) u ok=(gF P u).bind λT=>SB t u x ok T.lay T.kind:=by
 simp only[jY];cases gF P u with
 |none=>rfl
 |some T=>simp only[fq,SB];cases T.kind<;>rfl
def Sr (k:ah)(ok:Bool)(l:fL):Option bS->Option ah
 |some (.map ks vs _)=>if ks.all (sameKind k) then some (fT ks vs (zeroV l) k ok) else none
 |_=>none
theorem Xax {l0:fL}{k:ah}{ok:Bool}{σ:av}{ks vs:List ah}:nT σ ⟨⟨sz,ag,bs,z,.map⟩,fl,some l0,kt⟩ (.pm ks vs) k ok=if qE ⟨⟨sz,ag,bs,z,.map⟩,fl,some l0,kt⟩ k=true then (if ks.all (sameKind k)=true then some (fT ks vs (zeroV l0) k ok) else none) else none:=(Eq.refl _).trans rfl
theorem Ywg {l0:fL}{k:ah}{ok:Bool}{σ:av}{b:Nat}:nT σ ⟨⟨sz,ag,bs,z,.map⟩,fl,some l0,kt⟩ (.map b) k ok=if qE ⟨⟨sz,ag,bs,z,.map⟩,fl,some l0,kt⟩ k=true then Sr k ok l0 (bW σ b) else none:=by
 simp only[nT,Sr,kG.kind];split
 ·cases bW σ b with|none=>rfl|some x=>cases x<;>rfl
 ·rfl
theorem Yla {k:ah}{ok:Bool}{l:fL}{ks vs:List ah}{f:Bool}:Sr k ok l (some (.map ks vs f))=if ks.all (sameKind k)=true then some (fT ks vs (zeroV l) k ok) else none:=(Eq.refl _).trans rfl
theorem Yxk {L:fL}{s b:Nat}{a:Bool}{z:List ah}{k k':IntKind}{n:Int}:qE ⟨L,fl,e,some ⟨s,a,b,z,.int k'⟩⟩ (.int k n)=(k==k'):=(Eq.refl _).trans rfl
def MQ (σ:av)(b:Nat)(T:kG)(k v:ah)(l:fL):Option bS->Option av
 |some (.map ks vs false)=>if qE T k&&ks.all (sameKind k)&&decide (v.cells.length=l.sz) then some (cJ σ b (.map (jN ks vs k v).1 (jN ks vs k v).2 false)) else none
 |_=>none
theorem Yy0 {l0:fL}{k v:ah}{σ:av}{b:Nat}:jk σ ⟨⟨sz,ag,bs,z,.map⟩,fl,some l0,kt⟩ (.map b) k v=MQ σ b ⟨⟨sz,ag,bs,z,.map⟩,fl,some l0,kt⟩ k v l0 (bW σ b):=by
 simp only[jk,MQ,kG.kind];rcases bW σ b with _|x
 ·rfl
 ·cases x<;>rfl
theorem Ylw {σ:av}{b:Nat}{T:kG}{k v:ah}{l:fL}{ks vs:List ah}:MQ σ b T k v l (some (.map ks vs false))=if qE T k=true/\ks.all (sameKind k)=true/\v.cells.length=l.sz then some (cJ σ b (.map (jN ks vs k v).1 (jN ks vs k v).2 false)) else none:=by
 simp only[MQ,aG,decide_eq_true_eq,and_assoc]
end
section
variable {P:Program}{σ:av}{nm:Nat}{ρ:Operand->ah}{t:TypeId}{x y z:Operand}
theorem Yyw:dJ P σ nm ρ (.move x)=some (ρ x,σ):=(Eq.refl _).trans rfl
theorem Yoq:dJ P σ nm ρ (.assign x)=some (ρ x,σ):=(Eq.refl _).trans rfl
theorem Xa3:dJ P σ nm ρ (.pick x y z)=(tW (ρ x) (ρ y) (ρ z)).map (·,σ):=(Eq.refl _).trans rfl
theorem Yrb:dJ P σ nm ρ (.alloc t)=(cC P t).bind λl=>some (.ptr nm 0,cJ σ nm (.var l.zero)):=(Eq.refl _).trans rfl
theorem Xaw:dJ P σ nm ρ (.box t x)=(cC P t).bind λl=>if (ρ x).cells.length=l.sz/\(ρ x).cells.all ah.dy=true then some (.ptr nm 0,cJ σ nm (.var (ρ x).cells)) else none:=(Eq.refl _).trans rfl
theorem Ytq {p:Array (Nat×Operand)}:dJ P σ nm ρ (.build t p)=(gF P t).bind λT=>(pX T ρ p.toList).map (·,σ):=(Eq.refl _).trans rfl
theorem Zsk {n:Nat} {p:Array (Nat×Operand)}:dJ P σ nm ρ (.buildSlice t n p)=(gF P t).bind λT=>T.elem.bind λe=>(rM e ρ 0 p.toList).bind λes =>
   if es.length=n/\T.kind=.slice/\n*e.sz<=16777216/\e.zero.length=e.sz/\0<e.sz then some (.os nm 0 n e.sz,cJ σ nm (.row es 0)) else none:=(Eq.refl _).trans rfl
theorem Yxe:dJ P σ nm ρ (.load t x)=(cC P t).bind λl=>(jW σ l (ρ x)).map (·,σ):=(Eq.refl _).trans rfl
theorem Ys9:dJ P σ nm ρ (.store t x y)=(cC P t).bind λl=>(nX σ l (ρ x) (ρ y)).map (.undef, ·):=(Eq.refl _).trans rfl
def Dn (σ:av):ah->Option (ah×av)
 |.ptr b o=>some (.ptr b o,σ)
 |.rp b i f=>some (.rp b i f,σ)
 |.pp cs=>some (.pp cs,σ)
 |.fn f a c=>some (.fn f a c,σ)
 |_=>none
theorem Xbq:dJ P σ nm ρ (.nilCheck x)=Dn σ (ρ x):=by simp only[dJ];cases ρ x<;>rfl
theorem Yxl {b o:Nat}:Dn σ (.ptr b o)=some (.ptr b o,σ):=(Eq.refl _).trans rfl
theorem Xbu {b i f:Nat}:Dn σ (.rp b i f)=some (.rp b i f,σ):=(Eq.refl _).trans rfl
theorem Xbd {cs:List ah}:Dn σ (.pp cs)=some (.pp cs,σ):=(Eq.refl _).trans rfl
theorem Ywc {i:Nat}:qG (.tmp i)=false:=(Eq.refl _).trans rfl
theorem Yyj {k:IntKind}{n:Int}:qG (.const (.int k n))=false:=(Eq.refl _).trans rfl
theorem Yyi {s:ByteArray}:qG (.const (.string s))=false:=(Eq.refl _).trans rfl
theorem Yk4:qG (.const (.map none))=false:=(Eq.refl _).trans rfl
theorem Yv4:qG (.const (.slice none 0 0))=true:=(Eq.refl _).trans rfl
theorem Xbf {op:BinOp}{x y:ah}:Ai P op t x y false=uA P op t x y:=(Eq.refl _).trans rfl
theorem Yvz {op:BinOp}{x y:ah}:Ai P op t x y true=zr P op t x:=(Eq.refl _).trans rfl
def Ge (x:ah)(neg:Bool):Option KA->Option ah
 |some .slice=>xX neg x
 |_=>none
theorem Yxp {x:ah}:zr P .eql t x=Ge x false (kc P t):=by
 simp only[zr,Ge];cases kc P t with|none=>rfl|some k=>cases k<;>rfl
theorem Ymp {x:ah}{neg:Bool}:Ge x neg (some .slice)=xX neg x:=(Eq.refl _).trans rfl
theorem Xc2 {neg:Bool}{s:Nat}{es:List ah}:xX neg (.ps s es)=some (if es.length=0 then .jL else .bool neg):=(Eq.refl _).trans rfl
theorem Xc9 {op:BinOp}{u:TypeId}:dJ P σ nm ρ (.binOp op t x y u)=(Ai P op t (ρ x) (ρ y) (qG y)).map (·,σ):=(Eq.refl _).trans rfl
theorem Qu {op:UnOp}:dJ P σ nm ρ (.unOp op t x)=(Kj op (ρ x)).map (·,σ):=(Eq.refl _).trans rfl
def mkIf (t:TypeId)(v:ah)(σ:av):KA->Option (ah×av)
 |.iface=>none
 |_=>some (.iface t v,σ)
theorem Yuc:dJ P σ nm ρ (.makeInterface t x)=(kc P t).bind (mkIf t (ρ x) σ):=by
 simp only[dJ];cases kc P t with|none=>rfl|some K=>cases K<;>rfl
theorem Yl1 {v:ah}:mkIf t v σ .map=some (.iface t v,σ):=(Eq.refl _).trans rfl
theorem Xa0 {f:FuncId}{a b:Array Operand}:dJ P σ nm ρ (.makeFunc (.func f) a b)=some (.fn f (a.toList.map ρ) (b.toList.map ρ),σ):=(Eq.refl _).trans rfl
theorem Xc1:dJ P σ nm ρ (.makeMap t none)=some (.map nm,cJ σ nm (.map [] [] false)):=(Eq.refl _).trans rfl
theorem Zwl:dJ P σ nm ρ (.makeSlice t x y)=(gF P t).bind λT=>kM σ nm T (ρ x) (ρ y):=(Eq.refl _).trans rfl
theorem Ysp {a b c:Option Operand}:dJ P σ nm ρ (.slice t x a b c)=(gF P t).bind λT=>(kh T (ρ x) (a.map ρ) (b.map ρ) (c.map ρ)).map (·,σ):=(Eq.refl _).trans rfl
theorem Zwc {i:Nat}:dJ P σ nm ρ (.fieldAddr t x i)=(gF P t).bind λT=>(kK T (ρ x) i).map (·,σ):=(Eq.refl _).trans rfl
theorem Yt5 {i:Nat}:dJ P σ nm ρ (.field t x i)=(gF P t).bind λT=>(ru T (ρ x) i).map (·,σ):=(Eq.refl _).trans rfl
theorem Zw2:dJ P σ nm ρ (.indexAddr t x y)=(gF P t).bind λT=>(gw T (ρ x) (ρ y)).map (·,σ):=(Eq.refl _).trans rfl
theorem Yls {ok:Bool}:dJ P σ nm ρ (.lookup t x y ok)=(gF P t).bind λT=>(nT σ T (ρ x) (ρ y) ok).map (·,σ):=(Eq.refl _).trans rfl
theorem Zwh:dJ P σ nm ρ (.mapUpdate t x y z)=(gF P t).bind λT=>(jk σ T (ρ x) (ρ y) (ρ z)).map (.undef, ·):=(Eq.refl _).trans rfl
def Bs (σ:av)(nm:Nat):KA->ah->Option (ah×av)
 |.str,.str s=>some (.it nm,cJ σ nm (.iter s 0))
 |.map,.pm ks vs=>some (.it nm,cJ σ nm (.mC ks vs []))
 |_,_=>none
theorem Yqt:dJ P σ nm ρ (.range t x)=(gF P t).bind λT=>Bs σ nm T.kind (ρ x):=by
 simp only[dJ];cases gF P t with
 |none=>rfl
 |some T=>simp only[fq];cases T.kind<;>(try rfl)<;>cases ρ x<;>rfl
theorem Yef {ks vs:List ah}:Bs σ nm .map (.pm ks vs)=some (.it nm,cJ σ nm (.mC ks vs [])):=(Eq.refl _).trans rfl
theorem Yrf:dJ P σ nm ρ (.entry x)=p0 σ (ρ x):=(Eq.refl _).trans rfl
def Mj (σ:av):Option bS->Option (ah×av)
 |some (.mC ks vs seen)=>match seen.getLast? with
  |some i=>some (.dw [ks.getD i .undef,vs.getD i .undef],σ)
  |none=>none
 |_=>none
theorem Xbh {b:Nat}:p0 σ (.it b)=Mj σ (bW σ b):=by
 simp only[p0,Mj];cases bW σ b with|none=>rfl|some x=>cases x<;>rfl
theorem Ynq {ks vs:List ah}{seen:List Nat}{i:Nat}:Mj σ (some (.mC ks vs (seen++[i])))=some (.dw [ks.getD i .undef,vs.getD i .undef],σ):=by
 simp[Mj]
theorem Yp5 {u v:TypeId}{ok:Bool}:dJ P σ nm ρ (.typeAssert x u v ok)=(jY P (ρ x) v ok).map (·,σ):=(Eq.refl _).trans rfl
def Qw (σ:av)(i:Nat):ah->Option (ah×av)
 |.dw vs=>(vs[i]?).map (·,σ)
 |_=>none
theorem Yem {i:Nat}:dJ P σ nm ρ (.extract x i)=Qw σ i (ρ x):=by simp only[dJ,Qw];cases ρ x<;>rfl
theorem Ywz {i:Nat}{vs:List ah}:Qw σ i (.dw vs)=(vs[i]?).map (·,σ):=(Eq.refl _).trans rfl
theorem Yju {b:Builtin}{args:Array Operand}{ts:Array TypeId}:dJ P σ nm ρ (.call ⟨.builtin b,args,ts⟩)=gp P σ nm b ts.toList (args.toList.map ρ):=(Eq.refl _).trans rfl
theorem Yf5:kc P t=(cC P t).map (·.key):=(Eq.refl _).trans rfl
end
end Go.dq
