/- Part 18 of my own framework and of the walks of functions: AbsS. -/
import Derived.Test.YtfjbdamcmiglgaaGreatOwn17
abbrev fw:=@List.replicate_succ
set_option linter.unusedVariables false
set_option linter.unusedSectionVars false
set_option linter.unusedSimpArgs false
namespace Go.c8
open Go
section
variable {P:Program} {lo:Ctx} {Q:b9→St→Prop} {n:Nat} {k:List KI} {tm:List ae} {σ:ai} {all:Array Oper} {l:List Oper}
theorem Yz6 {e:b9}:dT P lo Q (n+1) [] e tm σ=Q e ⟨tm,σ⟩:=(Eq.refl _).trans rfl
theorem Ytj:dT P lo Q (n+1) (.code .skip :: k) .normal tm σ=dT P lo Q n k .normal tm σ:=(Eq.refl _).trans rfl
theorem Yzf {a b:Code}:dT P lo Q (n+1) (.code (.seq a b) :: k) .normal tm σ=dT P lo Q n (.code a :: .code b :: k) .normal tm σ:=(Eq.refl _).trans rfl
theorem Yue {c:Operand} {a b:Code}:dT P lo Q (n+1) (.code (.cond c a b) :: k) .normal tm σ=y8 P lo Q n (ev tm c) a b k tm σ:=(Eq.refl _).trans rfl
theorem Yo6 {id:Nat} {c:Code}:dT P lo Q (n+1) (.code (.block id c) :: k) .normal tm σ=dT P lo Q n (.code c :: .cd id :: k) .normal tm σ:=(Eq.refl _).trans rfl
theorem Z8 {id:Nat} {ops:Array Oper}:dT P lo Q (n+1) (.code (.region id ops false) :: k) .normal tm σ=dT P lo Q n (.ops ops ops.toList :: k) .normal tm σ:=(Eq.refl _).trans rfl
theorem Yuc {id:Nat} {ops:Array Oper}:dT P lo Q (n+1) (.code (.region id ops true) :: k) .normal tm σ=aK P lo Q (.code (.region id ops true) :: k) .normal ⟨tm,σ⟩:=(Eq.refl _).trans rfl
theorem Ywa {id:Nat}:dT P lo Q (n+1) (.code (.exit id) :: k) .normal tm σ=dT P lo Q n k (.exit id) tm σ:=(Eq.refl _).trans rfl
theorem Yz1:dT P lo Q (n+1) (.code .ret :: k) .normal tm σ=dT P lo Q n k .ret tm σ:=(Eq.refl _).trans rfl
theorem Yp2 {c:Code}:dT P lo Q (n+1) (.code (.scope c) :: k) .normal tm σ=dT P lo Q n (.code c :: .zt :: k) .normal tm σ:=(Eq.refl _).trans rfl
theorem You {i:Nat}:dT P lo Q (n+1) (.code (.label i) :: k) .normal tm σ=dT P lo Q n k .normal tm σ:=(Eq.refl _).trans rfl
theorem Yuo {c:Code}:dT P lo Q (n+1) (.code (.loop c) :: k) .normal tm σ=aK P lo Q (.code (.loop c) :: k) .normal ⟨tm,σ⟩:=(Eq.refl _).trans rfl
theorem Zui {f:Operand} {ps:Array Tmp} {a b:Code}:dT P lo Q (n+1) (.code (.rangeFunc f ps a b) :: k) .normal tm σ=aK P lo Q (.code (.rangeFunc f ps a b) :: k) .normal ⟨tm,σ⟩:=(Eq.refl _).trans rfl
theorem Yuw {i:Nat}:dT P lo Q (n+1) (.code (.goto i) :: k) .normal tm σ=dT P lo Q n k (.goto i) tm σ:=(Eq.refl _).trans rfl
theorem Zuv {c:Code} {i:Nat}:dT P lo Q (n+1) (.code c :: k) (.exit i) tm σ=dT P lo Q n k (.exit i) tm σ:=(Eq.refl _).trans rfl
theorem Zu3 {c:Code} {i:Nat}:dT P lo Q (n+1) (.code c :: k) (.goto i) tm σ=dT P lo Q n k (.goto i) tm σ:=(Eq.refl _).trans rfl
theorem Zyu {c:Code}:dT P lo Q (n+1) (.code c :: k) .ret tm σ=dT P lo Q n k .ret tm σ:=(Eq.refl _).trans rfl
theorem XC:dT P lo Q (n+1) (.ops all [] :: k) .normal tm σ=dT P lo Q n k .normal tm σ:=(Eq.refl _).trans rfl
theorem Ww {o:Oper}:dT P lo Q (n+1) (.ops all (o :: l) :: k) .normal tm σ=y9 P lo Q n (mc all tm o) all o l k tm σ:=(Eq.refl _).trans rfl
theorem Zra {id:Nat}:dT P lo Q (n+1) (.cd id :: k) .normal tm σ=dT P lo Q n k .normal tm σ:=(Eq.refl _).trans rfl
theorem XK {id:Nat}:dT P lo Q (n+1) (.cd id :: k) .ret tm σ=dT P lo Q n k .ret tm σ:=(Eq.refl _).trans rfl
theorem Ws {id i:Nat}:dT P lo Q (n+1) (.cd id :: k) (.goto i) tm σ=dT P lo Q n k (.goto i) tm σ:=(Eq.refl _).trans rfl
theorem Wa {id i:Nat}:dT P lo Q (n+1) (.cd id :: k) (.exit i) tm σ=(if i=id then dT P lo Q n k .normal tm σ else dT P lo Q n k (.exit i) tm σ):=(Eq.refl _).trans rfl
theorem Zsq:dT P lo Q (n+1) (.zt :: k) .normal tm σ=dT P lo Q n k .normal tm σ:=(Eq.refl _).trans rfl
theorem WI:dT P lo Q (n+1) (.zt :: k) .ret tm σ=dT P lo Q n k .ret tm σ:=(Eq.refl _).trans rfl
theorem Zyl {i:Nat}:dT P lo Q (n+1) (.zt :: k) (.exit i) tm σ=dT P lo Q n k (.exit i) tm σ:=(Eq.refl _).trans rfl
theorem Yvj {a b:Code}:y8 P lo Q (n+1) (.bool true) a b k tm σ=dT P lo Q n (.code a :: k) .normal tm σ:=by simp [y8]
theorem Ys9 {a b:Code}:y8 P lo Q (n+1) (.bool false) a b k tm σ=dT P lo Q n (.code b :: k) .normal tm σ:=by simp [y8]
theorem Yz7 {a b:Code}:y8 P lo Q (n+1) .gZ a b k tm σ=(dT P lo Q n (.code a :: k) .normal tm σ∧dT P lo Q n (.code b :: k) .normal tm σ):=(Eq.refl _).trans rfl
theorem Ytr {t:Bool} {a b:Code}:y8 P lo Q (n+1) (.bool t) a b k tm σ=((t=true→dT P lo Q n (.code a :: k) .normal tm σ)∧(t=false→dT P lo Q n (.code b :: k) .normal tm σ)):=(Eq.refl _).trans rfl
theorem Ywz {o:Oper}:y9 P lo Q (n+1) (some true) all o l k tm σ=mA P lo Q n o all l k tm σ:=by simp [y9]
theorem Yr9 {o:Oper}:y9 P lo Q (n+1) (some false) all o l k tm σ=dT P lo Q n (.ops all l :: k) .normal (put tm o.dst gone) σ:=by simp [y9]
theorem Ysp {o:Oper} {g:Bool}:y9 P lo Q (n+1) (some g) all o l k tm σ=((g=true→mA P lo Q n o all l k tm σ)∧(g=false→dT P lo Q n (.ops all l :: k) .normal (put tm o.dst gone) σ)):=(Eq.refl _).trans rfl
def tF (P:Program) (lo:Ctx) (Q:b9→St→Prop) (b:Bool) (d:Option Tmp) (f:ae) (args:List ae) (all:Array Oper) (l:List Oper) (k:List KI) (tm:List ae) (σ:ai):Prop :=
 if b=true then sg P f args σ (fun r σ'=>aK P lo Q (.ops all l :: k) .normal ⟨put tm d r,σ'⟩) (fun u σ'=>aK P lo Q k (.panic u) ⟨tm,σ'⟩)
 else aq P f args σ fun r σ'=>aK P lo Q (.ops all l :: k) .normal ⟨put tm d r,σ'⟩
theorem Yv8 {d:Option Tmp} {f:Operand} {args:Array Operand} {ts:Array TypeId} {t:TypeId} {p:String} {a:Array Edge} {g:Option (Nat×Bool)} :
  mA P lo Q (n+1) ⟨d, .call ⟨.value f,args,ts⟩,t,p,a,g⟩ all l k tm σ=tF P lo Q (jN k) d (ev tm f) (args.toList.map (ev tm)) all l k tm σ:=(Eq.refl _).trans rfl
theorem VW {d:Option Tmp} {f:ae} {args:List ae}:tF P lo Q false d f args all l k tm σ=aq P f args σ fun r σ'=>aK P lo Q (.ops all l :: k) .normal ⟨put tm d r,σ'⟩:=by simp [tF]
theorem Ytf {d:Option Tmp} {f:ae} {args:List ae}:tF P lo Q true d f args all l k tm σ=sg P f args σ (fun r σ'=>aK P lo Q (.ops all l :: k) .normal ⟨put tm d r,σ'⟩) (fun u σ'=>aK P lo Q k (.panic u) ⟨tm,σ'⟩):=by simp [tF]
theorem Ytq:jN []=false:=(Eq.refl _).trans rfl
theorem Yy2:jN (.BR :: k)=true:=(Eq.refl _).trans rfl
theorem Yp4 {c:Code}:jN (.code c :: k)=jN k:=(Eq.refl _).trans rfl
theorem Yx1 {l:List Oper}:jN (.ops all l :: k)=jN k:=(Eq.refl _).trans rfl
theorem Yua {i:Nat}:jN (.cd i :: k)=jN k:=(Eq.refl _).trans rfl
theorem Yug:jN (.zt :: k)=jN k:=(Eq.refl _).trans rfl
theorem Yu9 {t:TypeId} {cs:List ae}:yL (.iface t (.agg cs))=(kr cs).map fun l=>.iface t (.agg l.toArray):=(Eq.refl _).trans rfl
theorem Yw2 {t:TypeId} {i:IntKind} {m:Int}:yL (.iface t (.int i m))=some (.iface t (.int i m)):=(Eq.refl _).trans rfl
theorem Ysb:kr []=some []:=(Eq.refl _).trans rfl
theorem Yqh {i:IntKind} {m:Int} {r:List ae}:kr (.int i m :: r)=(kr r).map (.int i m :: ·):=(Eq.refl _).trans rfl
theorem Yvq {u:Value} {s:St}:aK P lo Q [] (.panic u) s=Q (.panic u) s:=(Eq.refl _).trans rfl
theorem Yrf {c:Code} {u:Value} {s:St}:aK P lo Q (.code c :: k) (.panic u) s=aK P lo Q k (.panic u) s:=(Eq.refl _).trans rfl
theorem Ywr {u:Value} {s:St}:aK P lo Q (.ops all l :: k) (.panic u) s=aK P lo Q k (.panic u) s:=(Eq.refl _).trans rfl
theorem Yu7 {i:Nat} {u:Value} {s:St}:aK P lo Q (.cd i :: k) (.panic u) s=aK P lo Q k (.panic u) s:=(Eq.refl _).trans rfl
theorem Ywd {u:Value} {s:St}:aK P lo Q (.BR :: k) (.panic u) s=aK P lo Q k (.panic u) s:=(Eq.refl _).trans rfl
theorem VO {e:b9}:dT P lo Q (n+1) (.BR :: k) e tm σ=dT P lo Q n k e tm σ:=by cases e<;>simp only [dT]
end
def NF:Op→Bool
 | .call ⟨.value _,_,_⟩=>true
 | .panic _=>true
 | .next _ false=>true
 | _=>false
section
variable {P:Program} {lo:Ctx} {Q:b9→St→Prop} {n:Nat} {k:List KI} {tm:List ae} {σ:ai} {all:Array Oper} {l:List Oper}
theorem Yun {r:ae} {σ':ai} {dst:Option Tmp}:lS P lo Q (n+1) (some (r,σ')) dst all l k tm=dT P lo Q n (.ops all l :: k) .normal (put tm dst r) σ':=(Eq.refl _).trans rfl
theorem Jq {dst:Option Tmp}:lS P lo Q n none dst all l k tm=False:=by cases n<;>rfl
theorem Jj {c:Prop} [Decidable c] {x:Option (ae×ai)} {dst:Option Tmp}:lS P lo Q n (if c then x else none) dst all l k tm=(c∧lS P lo Q n x dst all l k tm):=by
 by_cases h:c<;>simp [h,Jq]
theorem VX {c:Prop} [Decidable c] {x:c→Option (ae×ai)} {dst:Option Tmp}:lS P lo Q n (if h:c then x h else none) dst all l k tm = ∃ h:c,lS P lo Q n (x h) dst all l k tm:=by
 by_cases h:c<;>simp [h,Jq]
theorem Zt3 {α β:Type} {c:Prop} [Decidable c] {x:Option α} {f : α→Option β}:(if c then x else none).bind f=if c then x.bind f else none:=by split<;>rfl
theorem Zz1 {α β:Type} {c:Prop} [Decidable c] {x:Option α} {f : α→β}:(if c then x else none).map f=if c then x.map f else none:=by split<;>rfl
theorem Zph {α β:Type} {c:Prop} [Decidable c] {x:c→Option α} {f : α→Option β}:(if h:c then x h else none).bind f=if h:c then (x h).bind f else none:=by split<;>rfl
theorem Zsz {α β:Type} {c:Prop} [Decidable c] {x:c→Option α} {f : α→β}:(if h:c then x h else none).map f=if h:c then (x h).map f else none:=by split<;>rfl
theorem Ykg {tm:List ae} {d:Option Tmp} {op:Op} {t:TypeId} {p:String} {a:Array Edge}:mc all tm ⟨d,op,t,p,a,none⟩=some true:=(Eq.refl _).trans rfl
def Cx (want:Bool):Option ae→Option Bool
 | some (.bool b)=>some (b==want)
 | some (.nL v)=>if wb v then none else some false
 | _=>none
def LS (tm:List ae) (want:Bool):Option Tmp→Option Bool
 | some d=>Cx want (tm[d]?)
 | none=>none
theorem ZW {tm:List ae} {d:Option Tmp} {op:Op} {t:TypeId} {p:String} {a:Array Edge} {j:Nat} {want:Bool}:mc all tm ⟨d,op,t,p,a,some (j,want)⟩=LS tm want ((all.toList[j]?).bind (·.dst)):=by
 simp only [mc,LS,fX]
 cases (all[j]?.bind (·.dst)) with
 | none=>rfl
 | some d =>
  simp only [Cx]
  cases tm[d]? with
  | none=>rfl
  | some v=>cases v<;>rfl
theorem Ykf {d:Tmp} {want:Bool}:LS tm want (some d)=Cx want (tm[d]?):=(Eq.refl _).trans rfl
theorem ZO {want:Bool}:Cx want (some gone)=some false:=rfl
theorem Yl9 {b want:Bool}:Cx want (some (.bool b))=some (b==want):=(Eq.refl _).trans rfl
theorem Yvh {t:Tmp}:ev tm (.tmp t)=tm.getD t .undef:=(Eq.refl _).trans rfl
theorem Z3 {v:Value}:ev tm (.const v)=ofValue v:=(Eq.refl _).trans rfl
theorem WW {g:Nat}:ev tm (.global g) = .nL (.pointer (some ⟨g,0,none⟩)):=(Eq.refl _).trans rfl
theorem Yrq {f:FuncId}:ev tm (.func f) = .fn f [] []:=(Eq.refl _).trans rfl
theorem Ypp {b:Bool}:ofValue (.bool b) = .bool b:=(Eq.refl _).trans rfl
theorem Yy8 {k:IntKind} {n:Int}:ofValue (.int k n) = .int k n:=(Eq.refl _).trans rfl
theorem Yxv {s:ByteArray}:ofValue (.string s) = .str s:=(Eq.refl _).trans rfl
theorem XL:ofValue (.pointer none) = .bM:=(Eq.refl _).trans rfl
theorem Yrh:ofValue (.slice none 0 0) = .aU:=(Eq.refl _).trans rfl
theorem YM:ofValue (.map none) = .cw:=(Eq.refl _).trans rfl
theorem Ze:ofValue .nilFunc = .az:=(Eq.refl _).trans rfl
theorem Yl5:ofValue .nilIface = .fC:=(Eq.refl _).trans rfl
theorem Zs {d:Tmp} {v:ae}:put tm (some d) v=tm.set d v:=(Eq.refl _).trans rfl
theorem Ym9 {v:ae}:put tm none v=tm:=(Eq.refl _).trans rfl
theorem Y2 {cs:List ae}:(ae.agg cs).cells=cs:=(Eq.refl _).trans rfl
theorem RH {k:IntKind} {n:Int}:(ae.int k n).cells=[.int k n]:=(Eq.refl _).trans rfl
theorem Zy5 {b:Bool}:(ae.bool b).cells=[.bool b]:=(Eq.refl _).trans rfl
theorem Xy {b:ByteArray}:(ae.str b).cells=[.str b]:=(Eq.refl _).trans rfl
theorem Zpk:ae.bM.cells=[.bM]:=(Eq.refl _).trans rfl
theorem WS {b o:Nat}:(ae.ptr b o).cells=[.ptr b o]:=(Eq.refl _).trans rfl
theorem Yjo {b i f:Nat}:(ae.rp b i f).cells=[.rp b i f]:=(Eq.refl _).trans rfl
theorem Yle {cs:List ae}:(ae.pp cs).cells=[.pp cs]:=(Eq.refl _).trans rfl
theorem Zyw:ae.aU.cells=[.aU]:=(Eq.refl _).trans rfl
theorem Ymj {sz:Nat} {es:List ae}:(ae.ps sz es).cells=[.ps sz es]:=(Eq.refl _).trans rfl
theorem ZZ {b o m s:Nat}:(ae.os b o m s).cells=[.os b o m s]:=(Eq.refl _).trans rfl
theorem Z0 {b o m c s:Nat}:(ae.oc b o m c s).cells=[.oc b o m c s]:=(Eq.refl _).trans rfl
theorem Ztw:ae.az.cells=[.az]:=(Eq.refl _).trans rfl
theorem Zr {f:FuncId} {x y:List ae}:(ae.fn f x y).cells=[.fn f x y]:=(Eq.refl _).trans rfl
theorem Xs {b:Nat}:(ae.ld b).cells=[.ld b]:=(Eq.refl _).trans rfl
theorem Zpu:ae.cw.cells=[.cw]:=(Eq.refl _).trans rfl
theorem Ye {b:Nat}:(ae.map b).cells=[.map b]:=(Eq.refl _).trans rfl
theorem Yjq {x y:List ae}:(ae.pm x y).cells=[.pm x y]:=(Eq.refl _).trans rfl
theorem Zuj:ae.fC.cells=[.fC]:=(Eq.refl _).trans rfl
theorem Ztn {t:TypeId} {v:ae}:(ae.iface t v).cells=[.iface t v]:=(Eq.refl _).trans rfl
theorem Zuf:ae.undef.cells=[.undef]:=(Eq.refl _).trans rfl
theorem Yjd {k:IntKind} {n:Int}:(ae.int k n).cF=true:=(Eq.refl _).trans rfl
theorem YW {b:Bool}:(ae.bool b).cF=true:=(Eq.refl _).trans rfl
theorem Yjt {b:ByteArray}:(ae.str b).cF=true:=(Eq.refl _).trans rfl
theorem Ztu:ae.bM.cF=true:=(Eq.refl _).trans rfl
theorem Yjw {b o:Nat}:(ae.ptr b o).cF=true:=(Eq.refl _).trans rfl
theorem Yrl {b i f:Nat}:(ae.rp b i f).cF=true:=(Eq.refl _).trans rfl
theorem Yrv {cs:List ae}:(ae.pp cs).cF=true:=(Eq.refl _).trans rfl
theorem W1:ae.aU.cF=true:=(Eq.refl _).trans rfl
theorem Yni {sz:Nat} {es:List ae}:(ae.ps sz es).cF=true:=(Eq.refl _).trans rfl
theorem Ypb {b o m s:Nat}:(ae.os b o m s).cF=true:=(Eq.refl _).trans rfl
theorem Yo0 {b o m c s:Nat}:(ae.oc b o m c s).cF=true:=(Eq.refl _).trans rfl
theorem Zzx:ae.az.cF=true:=(Eq.refl _).trans rfl
theorem Yqr {f:FuncId} {x y:List ae}:(ae.fn f x y).cF=true:=(Eq.refl _).trans rfl
theorem Ylx {b:Nat}:(ae.ld b).cF=true:=(Eq.refl _).trans rfl
theorem Zv7:ae.cw.cF=true:=(Eq.refl _).trans rfl
theorem Zi {b:Nat}:(ae.map b).cF=true:=(Eq.refl _).trans rfl
theorem Ypy {x y:List ae}:(ae.pm x y).cF=true:=(Eq.refl _).trans rfl
theorem Wm:ae.fC.cF=true:=(Eq.refl _).trans rfl
theorem Zyk {t:TypeId} {v:ae}:(ae.iface t v).cF=true:=(Eq.refl _).trans rfl
theorem Yqi {cs:List ae}:cJ (.agg cs)=true:=(Eq.refl _).trans rfl
theorem Yqv {k:IntKind} {n:Int}:cJ (.int k n)=false:=(Eq.refl _).trans rfl
theorem Yl6 {b:Bool}:cJ (.bool b)=false:=(Eq.refl _).trans rfl
theorem Yns {b:ByteArray}:cJ (.str b)=false:=(Eq.refl _).trans rfl
theorem Yv1 {sz:Nat} {es:List ae}:cJ (.ps sz es)=false:=(Eq.refl _).trans rfl
theorem Yw4 {b o m s:Nat}:cJ (.os b o m s)=false:=(Eq.refl _).trans rfl
theorem Yxf {b o m c s:Nat}:cJ (.oc b o m c s)=false:=(Eq.refl _).trans rfl
theorem Yk4:cJ .aU=false:=(Eq.refl _).trans rfl
theorem Yov {b o:Nat}:cJ (.ptr b o)=false:=(Eq.refl _).trans rfl
theorem Xx {t:TypeId} {v:ae}:cJ (.iface t v)=false:=(Eq.refl _).trans rfl
theorem Yk3 {b:Nat}:bG [] b=none:=by simp [bG]
theorem YP {x:Option bE} {σ:ai}:bG (x :: σ) 0=x:=by simp [bG]
theorem XD {x:Option bE} {σ:ai} {b:Nat}:bG (x :: σ) (b+1)=bG σ b:=by simp [bG]
theorem Zpe {y:bE}:bZ [] 0 y=[some y]:=(Eq.refl _).trans rfl
theorem Zok {b:Nat} {y:bE}:bZ [] (b+1) y=none :: bZ [] b y:=by simp [bZ,fw]
theorem WZ {x:Option bE} {σ:ai} {y:bE}:bZ (x :: σ) 0 y=some y :: σ:=by simp [bZ]
theorem Yc {x:Option bE} {σ:ai} {b:Nat} {y:bE}:bZ (x :: σ) (b+1) y=x :: bZ σ b y:=by
 simp only [bZ,ax,Nat.add_lt_add_iff_right]
 split
 ·simp
 ·simp
def yC (l:eF) (off:Nat):Option bE→Option ae
 | some (.var cs)=>jD l (cs.drop off)
 | _=>none
def sJ (l:eF) (i f:Nat):Option bE→Option ae
 | some (.row es _)=>if i<es.length then jD l ((es.getD i .undef).cells.drop f) else none
 | _=>none
theorem ZC {l:eF} {b off:Nat}:iS σ l (.ptr b off)=yC l off (bG σ b):=by
 simp only [iS,yC];cases bG σ b with | none=>rfl | some x=>cases x<;>rfl
theorem Yqz {l:eF} {b i f:Nat}:iS σ l (.rp b i f)=sJ l i f (bG σ b):=by
 simp only [iS,sJ];cases bG σ b with | none=>rfl | some x=>cases x<;>rfl
theorem Yse {l:eF} {cs:List ae}:iS σ l (.pp cs)=jD l cs:=(Eq.refl _).trans rfl
theorem Xk {l:eF} {off:Nat} {cs:List ae}:yC l off (some (.var cs))=jD l (cs.drop off):=(Eq.refl _).trans rfl
theorem Zva {l:eF} {i f fz:Nat} {es:List ae}:sJ l i f (some (.row es fz))=if i<es.length then jD l ((es.getD i .undef).cells.drop f) else none:=(Eq.refl _).trans rfl
theorem Yju {sz b:Nat} {z:List ae} {key:KA} {cs:List ae}:jD ⟨sz,true,b,z,key⟩ cs=if sz≤cs.length then some (.agg (cs.take sz)) else none:=(Eq.refl _).trans rfl
theorem Yll {sz b:Nat} {z:List ae} {key:KA} {c:ae} {cs:List ae}:jD ⟨sz,false,b,z,key⟩ (c :: cs)=some c:=(Eq.refl _).trans rfl
def vI (sz off:Nat) (v:ae) (σ:ai) (b:Nat):Option bE→Option ai
 | some (.var cs)=>if off+sz≤cs.length then some (bZ σ b (.var (cq cs off v.cells))) else none
 | _=>none
def qZ (sz i f:Nat) (v:ae) (σ:ai) (b:Nat):Option bE→Option ai
 | some (.row es fz)=>if fz≤i∧i<es.length∧f+sz≤(es.getD i .undef).cells.length∧0<sz then
   some (bZ σ b (.row (es.set i (jh (cJ (es.getD i .undef)) (cq (es.getD i .undef).cells f v.cells))) fz)) else none
 | _=>none
theorem XE {l:eF} {b off:Nat} {v:ae}:mj σ l (.ptr b off) v=if v.cells.length=l.sz∧v.cells.all ae.cF=true then vI l.sz off v σ b (bG σ b) else none:=by
 simp only [mj,vI];split
 ·cases bG σ b with | none=>rfl | some x=>cases x<;>rfl
 ·rfl
theorem Yl3 {l:eF} {b i f:Nat} {v:ae}:mj σ l (.rp b i f) v=if v.cells.length=l.sz∧v.cells.all ae.cF=true then qZ l.sz i f v σ b (bG σ b) else none:=by
 simp only [mj,qZ];split
 ·cases bG σ b with | none=>rfl | some x=>cases x<;>rfl
 ·rfl
theorem Zz6 {sz off b:Nat} {v:ae} {cs:List ae}:vI sz off v σ b (some (.var cs))=if off+sz≤cs.length then some (bZ σ b (.var (cq cs off v.cells))) else none:=(Eq.refl _).trans rfl
theorem Zpg {sz i f b fz:Nat} {v:ae} {es:List ae}:qZ sz i f v σ b (some (.row es fz))=if fz≤i∧i<es.length∧f+sz≤(es.getD i .undef).cells.length∧0<sz then
   some (bZ σ b (.row (es.set i (jh (cJ (es.getD i .undef)) (cq (es.getD i .undef).cells f v.cells))) fz)) else none:=(Eq.refl _).trans rfl
theorem Zu9 {cs:List ae} {o:Nat}:cq cs o []=cs:=(Eq.refl _).trans rfl
theorem Zpq {cs vs:List ae} {o:Nat} {v:ae}:cq cs o (v :: vs)=cq (cs.set o v) (o+1) vs:=(Eq.refl _).trans rfl
theorem Zz0 {cs:List ae}:jh true cs = .agg cs:=(Eq.refl _).trans rfl
theorem Zyh {c:ae} {cs:List ae}:jh false (c :: cs)=c:=(Eq.refl _).trans rfl
end
def tL:ae→Nat→Option ae
 | .ptr b o,off=>some (.ptr b (o+off))
 | .rp b i f,off=>some (.rp b i (f+off))
 | .pp cs,off=>some (.pp (cs.drop off))
 | _,_=>none
def LQ (x:ae):Option (Nat×Option eF)→Option ae
 | some (off,some l)=>if l.sz≠0 then tL x off else none
 | _=>none
section
variable {sz bs:Nat} {ag:Bool} {z:List ae} {fl:List (Nat×Option eF)} {e kt:Option eF} {x y:ae} {i:Nat}
theorem Zoe:jL ⟨⟨sz,ag,bs,z, .struct⟩,fl,e,kt⟩ x i=LQ x fl[i]?:=by
 simp only [jL,jH.kind]
 rcases fl[i]? with _ | ⟨off,_ | l⟩
 ·rfl
 ·rfl
 ·simp only [LQ];cases x<;>rfl
theorem Yl4 {off:Nat} {l:eF}:LQ x (some (off,some l))=if l.sz≠0 then tL x off else none:=(Eq.refl _).trans rfl
theorem Yd {b o off:Nat}:tL (.ptr b o) off=some (.ptr b (o+off)):=(Eq.refl _).trans rfl
theorem ZR {b i f off:Nat}:tL (.rp b i f) off=some (.rp b i (f+off)):=(Eq.refl _).trans rfl
theorem Ylr {cs:List ae} {off:Nat}:tL (.pp cs) off=some (.pp (cs.drop off)):=(Eq.refl _).trans rfl
def FO (cs:List ae):Option (Nat×Option eF)→Option ae
 | some (off,some l)=>jD l (cs.drop off)
 | _=>none
theorem X2 {cs:List ae}:px ⟨⟨sz,ag,bs,z, .struct⟩,fl,e,kt⟩ (.agg cs) i=FO cs fl[i]?:=by
 simp only [px,jH.kind]
 rcases fl[i]? with _ | ⟨off,_ | l⟩<;>rfl
theorem Xe {cs:List ae} {off:Nat} {l:eF}:FO cs (some (off,some l))=jD l (cs.drop off):=(Eq.refl _).trans rfl
theorem VL {l:eF} {b off n s:Nat} {k:IntKind} {i:Int}:ff ⟨⟨sz,ag,bs,z, .slice⟩,fl,some l,kt⟩ (.os b off n s) (.int k i)=if l.sz=s∧0≤i∧i<n then some (.rp b (off+i.toNat) 0) else none:=by
 simp [ff,jH.kind,jH.uF]
theorem Yzo {l:eF} {b off n c s:Nat} {k:IntKind} {i:Int}:ff ⟨⟨sz,ag,bs,z, .slice⟩,fl,some l,kt⟩ (.oc b off n c s) (.int k i)=if l.sz=s∧0≤i∧i<n then some (.rp b (off+i.toNat) 0) else none:=by
 simp [ff,jH.kind,jH.uF]
theorem Yzw {l:eF} {s:Nat} {es:List ae} {k:IntKind} {i:Int}:ff ⟨⟨sz,ag,bs,z, .slice⟩,fl,some l,kt⟩ (.ps s es) (.int k i)=if l.sz=s∧0≤i∧i<es.length then some (.pp (es.getD i.toNat .undef).cells) else none:=by
 simp [ff,jH.kind,jH.uF]
theorem Yuk {l:eF} {b off m:Nat} {k:IntKind} {i:Int}:ff ⟨⟨sz,ag,bs,z, .array m⟩,fl,some l,kt⟩ (.ptr b off) (.int k i)=if 0≤i∧i<m then some (.ptr b (off+i.toNat*l.sz)) else none:=(Eq.refl _).trans rfl
theorem Yyc {l:eF} {cs:List ae} {m:Nat} {k:IntKind} {i:Int}:pD ⟨⟨sz,ag,bs,z, .array m⟩,fl,some l,kt⟩ (.agg cs) (.int k i)=if 0≤i∧i<m then jD l (cs.drop (i.toNat*l.sz)) else none:=(Eq.refl _).trans rfl
theorem Yvo {s:ByteArray} {k:IntKind} {i:Int}:pD ⟨⟨sz,ag,bs,z, .str⟩,fl,e,kt⟩ (.str s) (.int k i)=if h : 0≤i∧i.toNat<s.size then some (.int .u8 (s[i.toNat]'h.2).toNat) else none:=by
 by_cases h : 0≤i∧i.toNat<s.size
 ·rw [dif_pos h];exact dif_pos (⟨h,rfl⟩:(0≤i∧i.toNat<s.size)∧KA.str=KA.str)
 ·rw [dif_neg h];exact dif_neg (fun q:(0≤i∧i.toNat<s.size)∧KA.str=KA.str=>h q.1)
def yA (k:KA) (σ:ai) (x:ae):Option (ae×ai) :=
 match k with
 | .array n=>some (.int .i64 n,σ)
 | .str | .slice | .map=>(ng k σ x).map fun (n:Nat)=>(ae.int .i64 (n:Int),σ)
 | _=>none
theorem Yow {P:Program} {op:BinOp} {t:TypeId} {k k':IntKind} {a b:Int}:qv P op t (.int k a) (.int k' b)=if k=k' then iz op k a b else none:=(Eq.refl _).trans rfl
theorem Ypd {P:Program} {op:BinOp} {t:TypeId} {a b:ByteArray}:qv P op t (.str a) (.str b)=ml op a b:=(Eq.refl _).trans rfl
theorem Yja {P:Program} {op:BinOp} {t:TypeId} {a b:Bool}:qv P op t (.bool a) (.bool b)=lQ P op t (.bool a) (.bool b):=(Eq.refl _).trans rfl
theorem Ypi {P:Program} {op:BinOp} {t:TypeId} {a b:List ae}:qv P op t (.agg a) (.agg b)=lQ P op t (.agg a) (.agg b):=(Eq.refl _).trans rfl
theorem Zzf {P:Program} {op:BinOp} {t:TypeId} {ks vs:List ae}:qv P op t (.pm ks vs) .cw=lQ P op t (.pm ks vs) .cw:=(Eq.refl _).trans rfl
theorem Zug {P:Program} {op:BinOp} {t:TypeId} {b:Nat}:qv P op t (.map b) .cw=lQ P op t (.map b) .cw:=(Eq.refl _).trans rfl
theorem Ztp {P:Program} {op:BinOp} {t:TypeId}:qv P op t .cw .cw=lQ P op t .cw .cw:=(Eq.refl _).trans rfl
theorem VS {ks vs:List ae}:ln (.pm ks vs)=some true:=(Eq.refl _).trans rfl
theorem Ytv {b:Nat}:ln (.map b)=some true:=(Eq.refl _).trans rfl
theorem Yuh:ln .cw=some false:=(Eq.refl _).trans rfl
theorem Ytb {k:IntKind} {a b:Int}:iz .add k a b=some (.int k (k.wrap (a+b))):=(Eq.refl _).trans rfl
theorem Yw6 {k:IntKind} {a b:Int}:iz .sub k a b=some (.int k (k.wrap (a - b))):=(Eq.refl _).trans rfl
theorem Ywj {k:IntKind} {a b:Int}:iz .mul k a b=some (.int k (k.wrap (a*b))):=(Eq.refl _).trans rfl
theorem Ysm {k:IntKind} {a b:Int}:iz .quo k a b=if b≠0 then some (.int k (k.wrap (a.tdiv b))) else none:=(Eq.refl _).trans rfl
theorem Yx8 {k:IntKind} {a b:Int}:iz .rem k a b=if b≠0 then some (.int k (a.tmod b)) else none:=(Eq.refl _).trans rfl
theorem Yu0 {k:IntKind} {a b:Int}:iz .eql k a b=some (.bool (decide (a=b))):=(Eq.refl _).trans rfl
theorem Yy4 {k:IntKind} {a b:Int}:iz .neq k a b=some (.bool (decide (a≠b))):=(Eq.refl _).trans rfl
theorem Yvm {k:IntKind} {a b:Int}:iz .lss k a b=some (.bool (decide (a<b))):=(Eq.refl _).trans rfl
theorem Yvt {k:IntKind} {a b:Int}:iz .leq k a b=some (.bool (decide (a≤b))):=(Eq.refl _).trans rfl
theorem Yw9 {k:IntKind} {a b:Int}:iz .gtr k a b=some (.bool (decide (b<a))):=(Eq.refl _).trans rfl
theorem Yx9 {k:IntKind} {a b:Int}:iz .geq k a b=some (.bool (decide (b≤a))):=(Eq.refl _).trans rfl
theorem Yq8 {P:Program} {t:TypeId}:lQ P .eql t x y=(tK P t x y).map .bool:=(Eq.refl _).trans rfl
theorem Yoe {P:Program} {t:TypeId}:lQ P .neq t x y=(tK P t x y).map fun b=>.bool !b:=(Eq.refl _).trans rfl
def Ab (P:Program) (t:TypeId) (x y:ae):Option KA→Option Bool
 | some .bool=>match x,y with
  | .bool a, .bool b=>some (a==b)
  | _,_=>none
 | some .ptr=>match nu x,nu y with
  | some false,some b=>some (!b)
  | some true,some false=>some false
  | _,_=>none
 | some .map=>match y with
  | .cw=>(ln x).map (!·)
  | _=>none
 | some .iface=>match kz x,kz y with
  | some true,some false | some false,some true=>some false
  | some false,some false=>if qh P t=true then some true else none
  | _,_=>none
 | some .func=>match jW x,jW y with
  | some false,some b=>some (!b)
  | some true,some false=>some false
  | _,_=>none
 | some .struct=>match x,y with
  | .agg xs, .agg ys=>if xs.map r7=ys.map r7∧tJ P t (xs.map r7)=true then some (km xs ys) else none
  | _,_=>none
 | _=>none
theorem Ymm {P:Program} {t:TypeId}:tK P t x y=Ab P t x y (iA P t):=by
 unfold tK
 cases iA P t with
 | none=>rfl
 | some K=>cases K<;>(try rfl)<;>(cases x<;>(try rfl)<;>cases y<;>rfl)
theorem Yjg {P:Program} {t:TypeId} {a b:Bool}:Ab P t (.bool a) (.bool b) (some .bool)=some (a==b):=(Eq.refl _).trans rfl
theorem Zyb {P:Program} {t:TypeId} {a b:List ae}:Ab P t (.agg a) (.agg b) (some .struct)=if a.map r7=b.map r7∧tJ P t (a.map r7)=true then some (km a b) else none:=(Eq.refl _).trans rfl
theorem Yrd {P:Program} {t:TypeId}:Ab P t x .cw (some .map)=(ln x).map (!·):=(Eq.refl _).trans rfl
theorem Yzj {f:FuncId} {a b:List ae}:jW (.fn f a b)=some true:=(Eq.refl _).trans rfl
theorem Yth:jW .az=some false:=(Eq.refl _).trans rfl
theorem Yos {k:IntKind} {a:Int}:r7 (.int k a) = .int k:=(Eq.refl _).trans rfl
theorem N3 {a:ByteArray}:r7 (.str a) = .str:=(Eq.refl _).trans rfl
theorem Z9 {a:Bool}:r7 (.bool a) = .bool:=(Eq.refl _).trans rfl
theorem Yt9 {a b:ByteArray}:ml .add a b=if a.size+b.size≤1000000000 then some (.str (a++b)) else none:=(Eq.refl _).trans rfl
theorem Yxz {a b:ByteArray}:ml .eql a b=some (.bool (a.toList==b.toList)):=(Eq.refl _).trans rfl
theorem Yx2 {a b:ByteArray}:ml .neq a b=some (.bool !(a.toList==b.toList)):=(Eq.refl _).trans rfl
theorem Yx6 {a b:ByteArray}:ml .lss a b=some (.bool (Op.bytesLess a.toList b.toList)):=(Eq.refl _).trans rfl
theorem Yxo {b:Bool}:EG .not (.bool b)=some (.bool !b):=(Eq.refl _).trans rfl
theorem Ysx {k:IntKind} {a:Int}:EG .neg (.int k a)=some (.int k (k.wrap (0 - a))):=(Eq.refl _).trans rfl
theorem Yq5 {c a b:Bool}:oW (.bool c) (.bool a) (.bool b)=some (.bool (if c then a else b)):=(Eq.refl _).trans rfl
theorem Yww {c:Bool} {k k':IntKind} {a b:Int}:oW (.bool c) (.int k a) (.int k' b)=some (if c then .int k a else .int k' b):=(Eq.refl _).trans rfl
variable {σ:ai}
theorem Ys8 {s:ByteArray}:ng .str σ (.str s)=some s.size:=(Eq.refl _).trans rfl
theorem Ywc {s:Nat} {es:List ae}:ng .slice σ (.ps s es)=some es.length:=(Eq.refl _).trans rfl
theorem Yka:ng .slice σ .aU=some 0:=(Eq.refl _).trans rfl
theorem Yxl {b o n s:Nat}:ng .slice σ (.os b o n s)=some n:=(Eq.refl _).trans rfl
theorem Yxt {b o n c s:Nat}:ng .slice σ (.oc b o n c s)=some n:=(Eq.refl _).trans rfl
theorem V_:ng .map σ .cw=some 0:=(Eq.refl _).trans rfl
theorem Ywf {ks vs:List ae}:ng .map σ (.pm ks vs)=some ks.length:=(Eq.refl _).trans rfl
def Dn:Option bE→Option Nat
 | some (.map ks _ _)=>some ks.length
 | _=>none
theorem Ynp {b:Nat}:ng .map σ (.map b)=Dn (bG σ b):=by
 simp only [ng,Dn];cases bG σ b with | none=>rfl | some x=>cases x<;>rfl
theorem Y1 {ks vs:List ae} {f:Bool}:Dn (some (.map ks vs f))=some ks.length:=(Eq.refl _).trans rfl
theorem VT {s sz:Nat} {es:List ae}:eJ σ sz (.ps s es)=if s=sz then some es else none:=(Eq.refl _).trans rfl
theorem Ynn {sz:Nat}:eJ σ sz .aU=some []:=(Eq.refl _).trans rfl
def tH (off n:Nat):Option bE→Option (List ae)
 | some (.row es _)=>if off+n≤es.length then some ((es.drop off).take n) else none
 | _=>none
theorem VI {sz b off n s:Nat}:eJ σ sz (.os b off n s)=if s=sz then tH off n (bG σ b) else none:=by
 simp only [eJ,tH];split
 ·cases bG σ b with | none=>rfl | some x=>cases x<;>rfl
 ·rfl
theorem VM {sz b off n c s:Nat}:eJ σ sz (.oc b off n c s)=if s=sz then tH off n (bG σ b) else none:=by
 simp only [eJ,tH];split
 ·cases bG σ b with | none=>rfl | some x=>cases x<;>rfl
 ·rfl
theorem Zyx {off n fz:Nat} {es:List ae}:tH off n (some (.row es fz))=if off+n≤es.length then some ((es.drop off).take n) else none:=(Eq.refl _).trans rfl
def FI (k:KA) (σ:ai) (x:ae):Option (ae×ai) :=
 match k with
 | .slice=>(uS x).map fun (n:Nat)=>(ae.int .i64 (n:Int),σ)
 | _=>none
theorem Yw5 {P:Program} {nm:Nat} {t:TypeId}:eX P σ nm .len [t] [x]=(bK P t).bind fun T=>yA T.kind σ x:=by
 rfl
theorem Zc {m:Nat}:yA (.array m) σ x=some (.int .i64 m,σ):=(Eq.refl _).trans rfl
theorem Yml:yA .str σ x=(ng .str σ x).map fun (n:Nat)=>(ae.int .i64 (n:Int),σ):=(Eq.refl _).trans rfl
theorem Wh:yA .slice σ x=(ng .slice σ x).map fun (n:Nat)=>(ae.int .i64 (n:Int),σ):=(Eq.refl _).trans rfl
theorem Ylj:yA .map σ x=(ng .map σ x).map fun (n:Nat)=>(ae.int .i64 (n:Int),σ):=(Eq.refl _).trans rfl
theorem TV {L:eF}:jH.kind ⟨L,fl,e,kt⟩=L.key:=(Eq.refl _).trans rfl
def wD (σ:ai) (nm:Nat) (e:eF) (s x:ae):KA→Option (ae×ai)
 | .slice=>(eJ σ e.sz x).bind fun xs=>dY σ nm e s xs
 | .str=>match x with
  | .str y=>if e.sz=1 then dY σ nm e s (bytesOf y) else none
  | _=>none
 | .int _=>match x with
  | .int .i64 n=>if 0≤n∧n≤1000000000∧IntKind.i64.wrap n=n then dY σ nm e s (List.replicate n.toNat (zeroV e)) else none
  | _=>none
 | _=>none
theorem Ytn {P:Program} {nm:Nat} {t u:TypeId} {s:ae}:eX P σ nm .append [t,u] [s,x]=(bK P t).bind fun T=>(bK P u).bind fun U=>match T.kind,T.elem with
  | .slice,some e=>wD σ nm e s x U.kind
  | _,_=>none:=by
 simp only [eX]
 congr;funext T;congr;funext U
 cases T.kind<;>(try rfl)<;>cases T.elem<;>(try rfl)<;>cases U.kind<;>rfl
def FE (σ:ai) (nm:Nat) (s x:ae) (U:jH):KA→Option eF→Option (ae×ai)
 | .slice,some e=>wD σ nm e s x U.kind
 | _,_=>none
theorem XG {P:Program} {nm:Nat} {t u:TypeId} {s:ae}:eX P σ nm .append [t,u] [s,x]=(bK P t).bind fun T=>(bK P u).bind fun U=>FE σ nm s x U T.kind T.elem:=by
 rw [Ytn];congr
theorem Wz {nm:Nat} {s:ae} {U:jH} {l:eF}:FE σ nm s x U .slice (some l)=wD σ nm l s x U.kind:=(Eq.refl _).trans rfl
theorem Zyg {nm:Nat} {l:eF} {s:ae}:wD σ nm l s x .slice=(eJ σ l.sz x).bind fun xs=>dY σ nm l s xs:=(Eq.refl _).trans rfl
theorem Zz {nm:Nat} {l:eF} {s:ae} {y:ByteArray}:wD σ nm l s (.str y) .str=if l.sz=1 then dY σ nm l s (bytesOf y) else none:=(Eq.refl _).trans rfl
theorem Zh {nm:Nat} {l:eF} {s:ae} {k:IntKind} {n:Int}:wD σ nm l s (.int .i64 n) (.int k)=if 0≤n∧n≤1000000000∧IntKind.i64.wrap n=n then dY σ nm l s (List.replicate n.toNat (zeroV l)) else none:=(Eq.refl _).trans rfl
theorem Yx0 {P:Program} {nm:Nat} {t:TypeId}:eX P σ nm .cap [t] [x]=(bK P t).bind fun T=>FI T.kind σ x:=by
 simp only [eX];congr
theorem Zyy:FI .slice σ x=(uS x).map fun (n:Nat)=>(ae.int .i64 (n:Int),σ):=(Eq.refl _).trans rfl
theorem WN:uS .aU=some 0:=(Eq.refl _).trans rfl
theorem Yr0 {b o n c s:Nat}:uS (.oc b o n c s)=some c:=(Eq.refl _).trans rfl
def FK (σ:ai) (x:ae):KA→Option eF→Option (ae×ai)
 | .slice,some e=>(ko x).bind fun n=>if n=0 then some (.dz [],σ) else (kj σ e.sz x (List.replicate n (zeroV e))).map (.dz [], ·)
 | _,_=>none
theorem Yjs {P:Program} {nm:Nat} {t:TypeId}:eX P σ nm .clear [t] [x]=(bK P t).bind fun T=>FK σ x T.kind T.elem:=by
 simp only [eX];congr
theorem Zzy {l:eF}:FK σ x .slice (some l)=(ko x).bind fun n=>if n=0 then some (.dz [],σ) else (kj σ l.sz x (List.replicate n (zeroV l))).map (.dz [], ·):=(Eq.refl _).trans rfl
def FL (σ:ai) (d x:ae):KA→Option eF→KA→Option (ae×ai)
 | .slice,some e, .slice=>(ko d).bind fun n=>(eJ σ e.sz x).bind fun xs=>(kj σ e.sz d (xs.take n)).map (ae.int .i64 ((xs.take n).length:Int), ·)
 | _,_,_=>none
theorem Ynz {P:Program} {nm:Nat} {t u:TypeId} {d:ae}:eX P σ nm .copy [t,u] [d,x]=(bK P t).bind fun T=>(bK P u).bind fun U=>FL σ d x T.kind T.elem U.kind:=by
 simp only [eX];congr
theorem Wp {l:eF} {d:ae}:FL σ d x .slice (some l) .slice=(ko d).bind fun n=>(eJ σ l.sz x).bind fun xs=>(kj σ l.sz d (xs.take n)).map (ae.int .i64 ((xs.take n).length:Int), ·):=(Eq.refl _).trans rfl
theorem WT:ko .aU=some 0:=(Eq.refl _).trans rfl
theorem Yoz {b o n s:Nat}:ko (.os b o n s)=some n:=(Eq.refl _).trans rfl
theorem Ysj {b o n c s:Nat}:ko (.oc b o n c s)=some n:=(Eq.refl _).trans rfl
theorem Yp9 {s:Nat} {es:List ae}:ko (.ps s es)=some es.length:=(Eq.refl _).trans rfl
def mS (sz:Nat) (xs:List ae):Prop:=∀ x∈xs,x.cells.length=sz∧x.cells.all ae.cF=true
open Classical in
noncomputable def uk (σ:ai) (sz b off n w5:Nat) (xs:List ae):Option bE→Option ai
 | some (.row es fz)=>if w5=sz∧0<sz∧fz≤off∧xs.length≤n∧off+n≤es.length∧mS sz xs then some (bZ σ b (.row (cq es off xs) fz)) else none
 | _=>none
theorem SR {sz:Nat} {xs:List ae}:xs.all (fun x=>x.cells.length==sz&&x.cells.all ae.cF)=true↔mS sz xs:=by simp [mS]
theorem VU {sz b off n s:Nat} {xs:List ae}:kj σ sz (.os b off n s) xs=uk σ sz b off n s xs (bG σ b):=by
 simp only [kj,uk,← SR];cases bG σ b with | none=>rfl | some x=>cases x<;>rfl
theorem Yze {sz b off n c s:Nat} {xs:List ae}:kj σ sz (.oc b off n c s) xs=uk σ sz b off n s xs (bG σ b):=by
 simp only [kj,uk,← SR];cases bG σ b with | none=>rfl | some x=>cases x<;>rfl
open Classical in
theorem Zy7 {sz b off n s fz:Nat} {xs es:List ae}:uk σ sz b off n s xs (some (.row es fz))=if s=sz∧0<sz∧fz≤off∧xs.length≤n∧off+n≤es.length∧mS sz xs then some (bZ σ b (.row (cq es off xs) fz)) else none:=(Eq.refl _).trans rfl
def uQ (σ:ai) (nm:Nat) (e:eF) (b off n sz:Nat) (xs:List ae):Option bE→Option (ae×ai)
 | some (.row es fz)=>if sz=e.sz∧fz≤off+n∧off+n≤es.length∧n+xs.length≤cH e.bytes then
         some (.os nm 0 (n+xs.length) sz,bZ (σ.set b none) nm (.row ((es.drop off).take n++xs) (fz - off)))
    else none
 | _=>none
def eI (e:eF) (xs:List ae):Prop:=(∀ x∈xs,x.cells.length=e.sz∧x.cells.all ae.cF=true)∧0<e.sz∧e.bytes≤65536∧e.zero.length=e.sz
theorem Kv {e:eF} {xs:List ae}:(xs.all (fun x=>x.cells.length==e.sz&&x.cells.all ae.cF)=true∧0<e.sz∧e.bytes≤65536∧e.zero.length=e.sz)↔eI e xs:=by
 simp [eI]
open Classical in
theorem K2 {nm:Nat} {l:eF} {xs:List ae}:dY σ nm l .aU xs=if eI l xs then (if xs.length=0 then some (.aU,σ) else if xs.length≤cH l.bytes then some (.os nm 0 xs.length l.sz,bZ σ nm (.row xs 0)) else none) else none:=by
 unfold dY l7
 simp only [← Kv]
open Classical in
theorem Jo {nm:Nat} {l:eF} {xs:List ae} {b off n s:Nat}:dY σ nm l (.os b off n s) xs=if eI l xs then uQ σ nm l b off n s xs (bG σ b) else none:=by
 unfold dY l7
 simp only [← Kv]
 split
 ·simp only [uQ];cases bG σ b with | none=>rfl | some x=>cases x<;>rfl
 ·rfl
theorem JF {nm:Nat} {l:eF} {b off n s fz:Nat} {xs es:List ae}:uQ σ nm l b off n s xs (some (.row es fz))=if s=l.sz∧fz≤off+n∧off+n≤es.length∧n+xs.length≤cH l.bytes then
     some (.os nm 0 (n+xs.length) s,bZ (σ.set b none) nm (.row ((es.drop off).take n++xs) (fz - off))) else none:=(Eq.refl _).trans rfl
def sr (σ:ai) (nm b off n c sz IG:Nat) (xs:List ae):Option bE→Option (ae×ai)
 | some (.row es fz)=>if off+n≤es.length then
    if n+xs.length≤c then (if fz≤off+n∧off+n+xs.length≤es.length then some (.oc b off (n+xs.length) c sz,bZ σ b (.row (cq es (off+n) xs) fz)) else none)
    else if n+xs.length≤cH IG then some (.os nm 0 (n+xs.length) sz,bZ σ nm (.row ((es.drop off).take n++xs) 0)) else none
   else none
 | _=>none
open Classical in
theorem Yt2 {nm:Nat} {l:eF} {xs:List ae} {b off n c s:Nat}:dY σ nm l (.oc b off n c s) xs=if eI l xs∧s=l.sz then sr σ nm b off n c s l.bytes xs (bG σ b) else none:=by
 unfold dY nt
 simp only [← Kv]
 by_cases h1:(xs.all (fun x=>x.cells.length==l.sz&&x.cells.all ae.cF)=true∧0<l.sz∧l.bytes≤65536∧l.zero.length=l.sz)
 ·simp only [h1,and_true,true_and,if_true]
  by_cases h2:s=l.sz
  ·simp only [h2,true_and,if_true,sr];cases bG σ b with | none=>rfl | some x=>cases x<;>rfl
  ·simp only [h2,false_and,if_false];cases bG σ b with | none=>rfl | some x=>cases x<;>rfl
 ·rw [if_neg h1,if_neg (fun h=>h1 h.1)]
theorem Zpj {nm b off n c s IG fz:Nat} {xs es:List ae}:sr σ nm b off n c s IG xs (some (.row es fz))=if off+n≤es.length then
    if n+xs.length≤c then (if fz≤off+n∧off+n+xs.length≤es.length then some (.oc b off (n+xs.length) c s,bZ σ b (.row (cq es (off+n) xs) fz)) else none)
    else if n+xs.length≤cH IG then some (.os nm 0 (n+xs.length) s,bZ σ nm (.row ((es.drop off).take n++xs) 0)) else none
   else none:=(Eq.refl _).trans rfl
theorem Yvs {P:Program} {nm:Nat} {ts:List TypeId} {rest:List ae}:eX P σ nm .max ts (x :: rest)=(fy (fun a b=>if a<b then b else a) x rest).map (·,σ):=(Eq.refl _).trans rfl
theorem Ysn {P:Program} {nm:Nat} {ts:List TypeId} {rest:List ae}:eX P σ nm .min ts (x :: rest)=(fy (fun a b=>if b<a then b else a) x rest).map (·,σ):=(Eq.refl _).trans rfl
theorem Yxn {f:Int→Int→Int}:fy f x []=some x:=by cases x<;>rfl
theorem Ynl {f:Int→Int→Int} {k k':IntKind} {a b:Int} {rest:List ae}:fy f (.int k a) (.int k' b :: rest)=fy f (.int k (f a b)) rest:=(Eq.refl _).trans rfl
theorem Yxk {s:ByteArray} {lo hi:Option ae}:iL ⟨⟨sz,ag,bs,z, .str⟩,fl,e,kt⟩ (.str s) lo hi none=(wN s.size hi).bind fun h=>(qQ h lo).bind fun l=>some (.str (s.extract l h)):=(Eq.refl _).trans rfl
theorem Yzq {l0:eF} {s:Nat} {es:List ae} {lo hi:Option ae}:iL ⟨⟨sz,ag,bs,z, .slice⟩,fl,some l0,kt⟩ (.ps s es) lo hi none=if l0.sz=s then (wN es.length hi).bind fun h=>(qQ h lo).bind fun l=>some (.ps s ((es.drop l).take (h - l))) else none:=by
 simp [iL,jH.kind,jH.uF]
theorem Yzs {l0:eF} {b off n s:Nat} {lo hi:Option ae}:iL ⟨⟨sz,ag,bs,z, .slice⟩,fl,some l0,kt⟩ (.os b off n s) lo hi none=if l0.sz=s then (wN n hi).bind fun h=>(qQ h lo).bind fun l=>some (.os b (off+l) (h - l) s) else none:=by
 simp [iL,jH.kind,jH.uF]
theorem V0 {l0:eF} {b off n c s:Nat} {lo hi:Option ae}:iL ⟨⟨sz,ag,bs,z, .slice⟩,fl,some l0,kt⟩ (.oc b off n c s) lo hi none=if l0.sz=s then (CR n c hi).bind fun h=>(qQ h lo).bind fun l=>some (.oc b (off+l) (h - l) (c - l) s) else none:=by
 simp [iL,jH.kind,jH.uF]
theorem Yv7 {l0:eF} {b off n c s:Nat} {lo:Option ae} {k k':IntKind} {hi mx:Int}:iL ⟨⟨sz,ag,bs,z, .slice⟩,fl,some l0,kt⟩ (.oc b off n c s) lo (some (.int k hi)) (some (.int k' mx))=if l0.sz=s then (if (0:Int)≤mx∧mx≤c then (if (0:Int)≤hi∧hi≤mx.toNat then (qQ hi.toNat lo).bind fun l=>some (.oc b (off+l) (hi.toNat - l) (mx.toNat - l) s) else none) else none) else none:=by
 have e:∀ (n:Nat) (k:IntKind) (i:Int),jB 0 n (.int k i)=if (0:Int)≤i∧i≤n then some i.toNat else none:=fun n k i=>by simp [jB]
 simp only [iL,jH.kind,jH.uF,bu,true_and,aG]
 by_cases h1:l0.sz=s
 ·rw [if_pos h1,if_pos h1,e]
  by_cases h2:(0:Int)≤mx∧mx≤c
  ·rw [if_pos h2,if_pos h2,eo,eo,e]
   by_cases h3:(0:Int)≤hi∧hi≤mx.toNat
   ·rw [if_pos h3,if_pos h3,eo]
   ·rw [if_neg h3,if_neg h3];rfl
  ·rw [if_neg h2,if_neg h2];rfl
 ·rw [if_neg h1,if_neg h1]
theorem ZK {n c:Nat}:CR n c none=some n:=(Eq.refl _).trans rfl
theorem Y9 {n c:Nat} {k:IntKind} {i:Int}:CR n c (some (.int k i))=if (0:Int)≤i∧i≤c then some i.toNat else none:=by simp [CR,jB]
theorem Yps {l0:eF} {lo hi:Option ae}:iL ⟨⟨sz,ag,bs,z, .slice⟩,fl,some l0,kt⟩ .aU lo hi none=(wN 0 hi).bind fun h=>(qQ h lo).bind fun _=>some .aU:=by
 simp [iL,jH.kind]
theorem Ypu {n:Nat}:wN n none=some n:=(Eq.refl _).trans rfl
theorem Yph {n:Nat} {k:IntKind} {i:Int}:wN n (some (.int k i))=if (0:Int)≤i∧i≤n then some i.toNat else none:=by simp [wN,jB]
theorem Yog {n:Nat}:qQ n none=some 0:=(Eq.refl _).trans rfl
theorem Yop {n:Nat} {k:IntKind} {i:Int}:qQ n (some (.int k i))=if (0:Int)≤i∧i≤n then some i.toNat else none:=by simp [qQ,jB]
theorem WU {ρ:Operand→ae} {parts:List (Nat×Operand)}:n_ ⟨⟨sz,ag,bs,z, .struct⟩,fl,e,kt⟩ ρ parts=if fl.all (·.2.isSome)=true then (kh fl ρ z parts).map .agg else none:=(Eq.refl _).trans rfl
theorem Zq {l0:eF} {m:Nat} {ρ:Operand→ae} {parts:List (Nat×Operand)}:n_ ⟨⟨sz,ag,bs,z, .array m⟩,fl,some l0,kt⟩ ρ parts=(kh ((List.range m).map fun i=>(i*l0.sz,some l0)) ρ z parts).map .agg:=(Eq.refl _).trans rfl
def xL (oN:List (Nat×Option eF)) (ρ:Operand→ae) (cs:List ae) (v:ae) (rest:List (Nat×Operand)):Option (Nat×Option eF)→Option (List ae)
 | some (off,some l)=>if v.cells.length=l.sz∧off+l.sz≤cs.length∧v.cells.all ae.cF=true then kh oN ρ (cq cs off v.cells) rest else none
 | _=>none
theorem Yko {ρ:Operand→ae} {cs:List ae}:kh fl ρ cs []=some cs:=(Eq.refl _).trans rfl
theorem YH {ρ:Operand→ae} {cs:List ae} {i:Nat} {o:Operand} {rest:List (Nat×Operand)}:kh fl ρ cs ((i,o) :: rest)=xL fl ρ cs (ρ o) rest fl[i]?:=by
 simp only [kh,xL]
 rcases fl[i]? with _ | ⟨off,_ | l⟩<;>rfl
theorem Zzw {ρ:Operand→ae} {cs:List ae} {v:ae} {rest:List (Nat×Operand)} {off:Nat} {l:eF}:xL fl ρ cs v rest (some (off,some l))=if v.cells.length=l.sz∧off+l.sz≤cs.length∧v.cells.all ae.cF=true then kh fl ρ (cq cs off v.cells) rest else none:=(Eq.refl _).trans rfl
theorem Ypg {l0:eF} {ρ:Operand→ae} {k:Nat}:pK l0 ρ k []=some []:=(Eq.refl _).trans rfl
theorem Ykw {l0:eF} {ρ:Operand→ae} {k i:Nat} {o:Operand} {rest:List (Nat×Operand)}:pK l0 ρ k ((i,o) :: rest)=if i=k∧(ρ o).cells.length=l0.sz∧cJ (ρ o)=l0.ag∧(ρ o).cells.all ae.cF=true then (pK l0 ρ (k+1) rest).map (ρ o :: ·) else none:=(Eq.refl _).trans rfl
theorem Ytm {nm:Nat} {l0:eF} {l c:Int}:jP σ nm ⟨⟨sz,ag,bs,z, .slice⟩,fl,some l0,kt⟩ (.int .i64 l) (.int .i64 c)=if 0≤l∧l≤c∧c≤1000000000∧l0.bytes≤65536∧0<l0.sz∧l0.zero.length=l0.sz then some (.os nm 0 l.toNat l0.sz,bZ σ nm (.row (List.replicate l.toNat (zeroV l0)) 0)) else none:=(Eq.refl _).trans rfl
theorem Yvk {s b:Nat} {z:List ae} {k:KA}:zeroV ⟨s,true,b,z,k⟩ = .agg z:=(Eq.refl _).trans rfl
theorem Ytx {s b:Nat} {c:ae} {z:List ae} {k:KA}:zeroV ⟨s,false,b,c :: z,k⟩=c:=(Eq.refl _).trans rfl
def NU (t u:TypeId) (x:ae) (ok:Bool) (l:eF):KA→Option ae
 | .iface=>none
 | _=>if t=u then some (if ok then .dz [x, .bool true] else x) else if ok then some (.dz [zeroV l, .bool false]) else none
theorem Ylh {P:Program} {u t:TypeId} {ok:Bool}:iV P (.iface t x) u ok=(bK P u).bind fun T=>NU t u x ok T.lay T.kind:=by
 simp only [iV]
 cases bK P u with
 | none=>rfl
 | some T=>simp only [eo,NU];cases T.kind<;>rfl
def NL (k:ae) (ok:Bool) (l:eF):Option bE→Option ae
 | some (.map ks vs _)=>if ks.all (sameKind k) then some (eM ks vs (zeroV l) k ok) else none
 | _=>none
theorem Ysl {l0:eF} {k:ae} {ok:Bool} {σ:ai}:ll σ ⟨⟨sz,ag,bs,z, .map⟩,fl,some l0,kt⟩ .cw k ok=if nc ⟨⟨sz,ag,bs,z, .map⟩,fl,some l0,kt⟩ k=true then some (eM [] [] (zeroV l0) k ok) else none:=(Eq.refl _).trans rfl
theorem Yzh {l0:eF} {k:ae} {ok:Bool} {σ:ai} {ks vs:List ae}:ll σ ⟨⟨sz,ag,bs,z, .map⟩,fl,some l0,kt⟩ (.pm ks vs) k ok=if nc ⟨⟨sz,ag,bs,z, .map⟩,fl,some l0,kt⟩ k=true then (if ks.all (sameKind k)=true then some (eM ks vs (zeroV l0) k ok) else none) else none:=(Eq.refl _).trans rfl
theorem Ytp {l0:eF} {k:ae} {ok:Bool} {σ:ai} {b:Nat}:ll σ ⟨⟨sz,ag,bs,z, .map⟩,fl,some l0,kt⟩ (.map b) k ok=if nc ⟨⟨sz,ag,bs,z, .map⟩,fl,some l0,kt⟩ k=true then NL k ok l0 (bG σ b) else none:=by
 simp only [ll,NL,jH.kind]
 split
 ·cases bG σ b with | none=>rfl | some x=>cases x<;>rfl
 ·rfl
theorem Yjl {k:ae} {ok:Bool} {l:eF} {ks vs:List ae} {f:Bool}:NL k ok l (some (.map ks vs f))=if ks.all (sameKind k)=true then some (eM ks vs (zeroV l) k ok) else none:=(Eq.refl _).trans rfl
theorem Yus {L:eF} {s b:Nat} {a:Bool} {z:List ae} {k k':IntKind} {n:Int}:nc ⟨L,fl,e,some ⟨s,a,b,z, .int k'⟩⟩ (.int k n)=(k==k'):=(Eq.refl _).trans rfl
theorem Yv2 {L:eF} {s b:Nat} {a:Bool} {z:List ae} {y:ByteArray}:nc ⟨L,fl,e,some ⟨s,a,b,z, .str⟩⟩ (.str y)=true:=(Eq.refl _).trans rfl
theorem Ywv {k k':IntKind} {a b:Int}:sameKind (.int k a) (.int k' b)=(k==k'):=(Eq.refl _).trans rfl
theorem Yy3 {a b:ByteArray}:sameKind (.str a) (.str b)=true:=(Eq.refl _).trans rfl
def Jd (σ:ai) (b:Nat) (T:jH) (k v:ae) (l:eF):Option bE→Option ai
 | some (.map ks vs false)=>if nc T k&&ks.all (sameKind k)&&decide (v.cells.length=l.sz) then some (bZ σ b (.map (iK ks vs k v).1 (iK ks vs k v).2 false)) else none
 | _=>none
theorem Ywk {l0:eF} {k v:ae} {σ:ai} {b:Nat}:gp σ ⟨⟨sz,ag,bs,z, .map⟩,fl,some l0,kt⟩ (.map b) k v=Jd σ b ⟨⟨sz,ag,bs,z, .map⟩,fl,some l0,kt⟩ k v l0 (bG σ b):=by
 simp only [gp,Jd,jH.kind]
 rcases bG σ b with _ | x
 ·rfl
 ·cases x<;>rfl
theorem Z6 {σ:ai} {b:Nat} {T:jH} {k v:ae} {l:eF} {ks vs:List ae}:Jd σ b T k v l (some (.map ks vs false))=if nc T k=true∧ks.all (sameKind k)=true∧v.cells.length=l.sz then some (bZ σ b (.map (iK ks vs k v).1 (iK ks vs k v).2 false)) else none:=by
 simp only [Jd,aD,decide_eq_true_eq,and_assoc]
end
section
variable {P:Program} {σ:ai} {nm:Nat} {ρ:Operand→ae} {t:TypeId} {x y z:Operand}
theorem Yt5:cY P σ nm ρ (.move x)=some (ρ x,σ):=(Eq.refl _).trans rfl
theorem Ykz:cY P σ nm ρ (.assign x)=some (ρ x,σ):=(Eq.refl _).trans rfl
theorem Yx7:cY P σ nm ρ (.pick x y z)=(oW (ρ x) (ρ y) (ρ z)).map (·,σ):=(Eq.refl _).trans rfl
theorem Yqb:cY P σ nm ρ (.alloc t)=(aC P t).bind fun l=>some (.ptr nm 0,bZ σ nm (.var l.zero)):=(Eq.refl _).trans rfl
theorem Yyx:cY P σ nm ρ (.box t x)=(aC P t).bind fun l=>if (ρ x).cells.length=l.sz∧(ρ x).cells.all ae.cF=true then some (.ptr nm 0,bZ σ nm (.var (ρ x).cells)) else none:=(Eq.refl _).trans rfl
theorem Ypx {p:Array (Nat×Operand)}:cY P σ nm ρ (.build t p)=(bK P t).bind fun T=>(n_ T ρ p.toList).map (·,σ):=(Eq.refl _).trans rfl
theorem Zq3 {n:Nat} {p:Array (Nat×Operand)}:cY P σ nm ρ (.buildSlice t n p)=(bK P t).bind fun T=>T.elem.bind fun e=>(pK e ρ 0 p.toList).bind fun es =>
   if es.length=n∧T.kind = .slice∧n*e.sz≤16777216∧e.zero.length=e.sz∧0<e.sz then some (.os nm 0 n e.sz,bZ σ nm (.row es 0)) else none:=(Eq.refl _).trans rfl
theorem Yta:cY P σ nm ρ (.load t x)=(aC P t).bind fun l=>(iS σ l (ρ x)).map (·,σ):=(Eq.refl _).trans rfl
theorem Yrb:cY P σ nm ρ (.store t x y)=(aC P t).bind fun l=>(mj σ l (ρ x) (ρ y)).map (.undef, ·):=(Eq.refl _).trans rfl
def yE (σ:ai):ae→Option (ae×ai)
 | .ptr b o=>some (.ptr b o,σ)
 | .rp b i f=>some (.rp b i f,σ)
 | .pp cs=>some (.pp cs,σ)
 | .fn f a c=>some (.fn f a c,σ)
 | _=>none
theorem VY:cY P σ nm ρ (.nilCheck x)=yE σ (ρ x):=by simp only [cY];cases ρ x<;>rfl
theorem Yy7 {b o:Nat}:yE σ (.ptr b o)=some (.ptr b o,σ):=(Eq.refl _).trans rfl
theorem Yzr {b i f:Nat}:yE σ (.rp b i f)=some (.rp b i f,σ):=(Eq.refl _).trans rfl
theorem Yzp {cs:List ae}:yE σ (.pp cs)=some (.pp cs,σ):=(Eq.refl _).trans rfl
theorem Yz0 {f:FuncId} {a c:List ae}:yE σ (.fn f a c)=some (.fn f a c,σ):=(Eq.refl _).trans rfl
theorem Yuq {i:Nat}:j3 (.tmp i)=false:=(Eq.refl _).trans rfl
theorem Ysy {k:IntKind} {n:Int}:j3 (.const (.int k n))=false:=(Eq.refl _).trans rfl
theorem Yr1 {b:Bool}:j3 (.const (.bool b))=false:=(Eq.refl _).trans rfl
theorem Yxc {s:ByteArray}:j3 (.const (.string s))=false:=(Eq.refl _).trans rfl
theorem Ym:j3 (.const (.pointer none))=false:=(Eq.refl _).trans rfl
theorem YT:j3 (.const (.map none))=false:=(Eq.refl _).trans rfl
theorem Yks:j3 (.const .nilFunc)=false:=(Eq.refl _).trans rfl
theorem Ym5:j3 (.const .nilIface)=false:=(Eq.refl _).trans rfl
theorem Yws {l:Array Value}:j3 (.const (.agg l))=false:=(Eq.refl _).trans rfl
theorem Yt8 {a:Addr}:j3 (.const (.pointer (some a)))=false:=(Eq.refl _).trans rfl
theorem Zk {t:TypeId} {v:Value}:j3 (.const (.iface t v))=false:=(Eq.refl _).trans rfl
theorem Ysi {g:Nat}:j3 (.global g)=false:=(Eq.refl _).trans rfl
theorem Yqx:j3 (.const (.slice none 0 0))=true:=(Eq.refl _).trans rfl
theorem Yyz {op:BinOp} {x y:ae}:xF P op t x y false=qv P op t x y:=(Eq.refl _).trans rfl
theorem Yuy {op:BinOp} {x y:ae}:xF P op t x y true=uh P op t x:=(Eq.refl _).trans rfl
def yF (x:ae) (neg:Bool):Option KA→Option ae
 | some .slice=>rJ neg x
 | _=>none
theorem Yvr {x:ae}:uh P .eql t x=yF x false (iA P t):=by
 simp only [uh,yF];cases iA P t with | none=>rfl | some k=>cases k<;>rfl
theorem Yx4 {x:ae}:uh P .neq t x=yF x true (iA P t):=by
 simp only [uh,yF];cases iA P t with | none=>rfl | some k=>cases k<;>rfl
theorem Ymk {x:ae} {neg:Bool}:yF x neg (some .slice)=rJ neg x:=(Eq.refl _).trans rfl
theorem Ypk {neg:Bool}:rJ neg .aU=some .gZ:=(Eq.refl _).trans rfl
theorem Yyy {neg:Bool} {s:Nat} {es:List ae}:rJ neg (.ps s es)=some (if es.length=0 then .gZ else .bool neg):=(Eq.refl _).trans rfl
theorem VJ {neg:Bool} {b o n s:Nat}:rJ neg (.os b o n s)=some (if n=0 then .gZ else .bool neg):=(Eq.refl _).trans rfl
theorem VP {neg:Bool} {b o n c s:Nat}:rJ neg (.oc b o n c s)=some (if n=0 then .gZ else .bool neg):=(Eq.refl _).trans rfl
theorem VN {op:BinOp} {u:TypeId}:cY P σ nm ρ (.binOp op t x y u)=(xF P op t (ρ x) (ρ y) (j3 y)).map (·,σ):=(Eq.refl _).trans rfl
theorem LN {op:UnOp}:cY P σ nm ρ (.unOp op t x)=(EG op (ρ x)).map (·,σ):=(Eq.refl _).trans rfl
theorem Yn {u:TypeId}:cY P σ nm ρ (.convert t u x)=(oL P t u (ρ x)).map (·,σ):=(Eq.refl _).trans rfl
def mkIf (t:TypeId) (v:ae) (σ:ai):KA→Option (ae×ai)
 | .iface=>none
 | _=>some (.iface t v,σ)
theorem Ys5:cY P σ nm ρ (.makeInterface t x)=(iA P t).bind (mkIf t (ρ x) σ):=by
 simp only [cY];cases iA P t with | none=>rfl | some K=>cases K<;>rfl
theorem Zu5 {v:ae}:mkIf t v σ .struct=some (.iface t v,σ):=(Eq.refl _).trans rfl
theorem Ylg {v:ae}:mkIf t v σ .ptr=some (.iface t v,σ):=(Eq.refl _).trans rfl
theorem Y4 {v:ae}:mkIf t v σ .map=some (.iface t v,σ):=(Eq.refl _).trans rfl
theorem Zj {v:ae}:mkIf t v σ .str=some (.iface t v,σ):=(Eq.refl _).trans rfl
theorem Yj8 {v:ae} {k:IntKind}:mkIf t v σ (.int k)=some (.iface t v,σ):=(Eq.refl _).trans rfl
theorem Yv9 {f:FuncId} {a b:Array Operand}:cY P σ nm ρ (.makeFunc (.func f) a b)=some (.fn f (a.toList.map ρ) (b.toList.map ρ),σ):=(Eq.refl _).trans rfl
theorem Yz3:cY P σ nm ρ (.makeMap t none)=some (.map nm,bZ σ nm (.map [] [] false)):=(Eq.refl _).trans rfl
theorem Zvc:cY P σ nm ρ (.makeSlice t x y)=(bK P t).bind fun T=>jP σ nm T (ρ x) (ρ y):=(Eq.refl _).trans rfl
theorem Yqc {a b c:Option Operand}:cY P σ nm ρ (.slice t x a b c)=(bK P t).bind fun T=>(iL T (ρ x) (a.map ρ) (b.map ρ) (c.map ρ)).map (·,σ):=(Eq.refl _).trans rfl
theorem Zte {i:Nat}:cY P σ nm ρ (.fieldAddr t x i)=(bK P t).bind fun T=>(jL T (ρ x) i).map (·,σ):=(Eq.refl _).trans rfl
theorem Ysf {i:Nat}:cY P σ nm ρ (.field t x i)=(bK P t).bind fun T=>(px T (ρ x) i).map (·,σ):=(Eq.refl _).trans rfl
theorem Zv5:cY P σ nm ρ (.indexAddr t x y)=(bK P t).bind fun T=>(ff T (ρ x) (ρ y)).map (·,σ):=(Eq.refl _).trans rfl
theorem Yr4:cY P σ nm ρ (.index t x y)=(bK P t).bind fun T=>(pD T (ρ x) (ρ y)).map (·,σ):=(Eq.refl _).trans rfl
theorem Ylo {ok:Bool}:cY P σ nm ρ (.lookup t x y ok)=(bK P t).bind fun T=>(ll σ T (ρ x) (ρ y) ok).map (·,σ):=(Eq.refl _).trans rfl
theorem Ylv:cY P σ nm ρ (.insert t x y z)=(bK P t).bind fun T=>(gp σ T (ρ x) (ρ y) (ρ z)).map (.undef, ·):=(Eq.refl _).trans rfl
theorem Zv8:cY P σ nm ρ (.mapUpdate t x y z)=(bK P t).bind fun T=>(gp σ T (ρ x) (ρ y) (ρ z)).map (.undef, ·):=(Eq.refl _).trans rfl
def vH (σ:ai) (nm:Nat):KA→ae→Option (ae×ai)
 | .str, .str s=>some (.it nm,bZ σ nm (.iter s 0))
 | .map, .pm ks vs=>some (.it nm,bZ σ nm (.kZ ks vs []))
 | _,_=>none
theorem Ys7:cY P σ nm ρ (.range t x)=(bK P t).bind fun T=>vH σ nm T.kind (ρ x):=by
 simp only [cY];cases bK P t with
 | none=>rfl
 | some T=>simp only [eo];cases T.kind<;>(try rfl)<;>cases ρ x<;>rfl
theorem Zzj {s:ByteArray}:vH σ nm .str (.str s)=some (.it nm,bZ σ nm (.iter s 0)):=(Eq.refl _).trans rfl
theorem W5 {ks vs:List ae}:vH σ nm .map (.pm ks vs)=some (.it nm,bZ σ nm (.kZ ks vs [])):=(Eq.refl _).trans rfl
theorem Ynu:cY P σ nm ρ (.entry x)=oh σ (ρ x):=(Eq.refl _).trans rfl
def IJ (σ:ai):Option bE→Option (ae×ai)
 | some (.kZ ks vs seen)=>match seen.getLast? with
  | some i=>some (.dz [ks.getD i .undef,vs.getD i .undef],σ)
  | none=>none
 | _=>none
theorem VK {b:Nat}:oh σ (.it b)=IJ σ (bG σ b):=by
 simp only [oh,IJ];cases bG σ b with | none=>rfl | some x=>cases x<;>rfl
theorem Zm {ks vs:List ae} {seen:List Nat} {i:Nat}:IJ σ (some (.kZ ks vs (seen++[i])))=some (.dz [ks.getD i .undef,vs.getD i .undef],σ):=by
 simp [IJ]
theorem Yv4:cY P σ nm ρ (.next x true)=m_ σ (ρ x):=(Eq.refl _).trans rfl
theorem Yjr {u v:TypeId} {ok:Bool}:cY P σ nm ρ (.typeAssert x u v ok)=(iV P (ρ x) v ok).map (·,σ):=(Eq.refl _).trans rfl
def LP (σ:ai) (i:Nat):ae→Option (ae×ai)
 | .dz vs=>(vs[i]?).map (·,σ)
 | _=>none
theorem YX {i:Nat}:cY P σ nm ρ (.extract x i)=LP σ i (ρ x):=by simp only [cY,LP];cases ρ x<;>rfl
theorem Yxu {i:Nat} {vs:List ae}:LP σ i (.dz vs)=(vs[i]?).map (·,σ):=(Eq.refl _).trans rfl
theorem Xd {b:Builtin} {args:Array Operand} {ts:Array TypeId}:cY P σ nm ρ (.call ⟨.builtin b,args,ts⟩)=eX P σ nm b ts.toList (args.toList.map ρ):=(Eq.refl _).trans rfl
theorem WM:iA P t=(aC P t).map (·.key):=(Eq.refl _).trans rfl
end
end Go.c8
