/- Part 18 of my own framework and of the walks of functions: AbsS. -/
import Derived.Test.YtfjbdamcmiglgaaGreatOwn17
abbrev fw:=@List.replicate_succ
set_option linter.unusedVariables false
set_option linter.unusedSectionVars false
set_option linter.unusedSimpArgs false
namespace Go.cV
open Go
section
variable {P:Program} {lo:Ctx} {Q:cb→St→Prop} {n:Nat} {k:List KI} {tm:List ae} {σ:ai} {all:Array Oper} {l:List Oper}
theorem Yz8 {e:cb}:dW P lo Q (n+1) [] e tm σ=Q e ⟨tm,σ⟩:=(Eq.refl _).trans rfl
theorem Yw9:dW P lo Q (n+1) (.code .skip :: k) .normal tm σ=dW P lo Q n k .normal tm σ:=(Eq.refl _).trans rfl
theorem V_ {a b:Code}:dW P lo Q (n+1) (.code (.seq a b) :: k) .normal tm σ=dW P lo Q n (.code a :: .code b :: k) .normal tm σ:=(Eq.refl _).trans rfl
theorem Ytj {c:Operand} {a b:Code}:dW P lo Q (n+1) (.code (.cond c a b) :: k) .normal tm σ=zd P lo Q n (ev tm c) a b k tm σ:=(Eq.refl _).trans rfl
theorem Ypw {id:Nat} {c:Code}:dW P lo Q (n+1) (.code (.block id c) :: k) .normal tm σ=dW P lo Q n (.code c :: .cf id :: k) .normal tm σ:=(Eq.refl _).trans rfl
theorem Yjr {id:Nat} {ops:Array Oper}:dW P lo Q (n+1) (.code (.region id ops false) :: k) .normal tm σ=dW P lo Q n (.ops ops ops.toList :: k) .normal tm σ:=(Eq.refl _).trans rfl
theorem Ytu {id:Nat} {ops:Array Oper}:dW P lo Q (n+1) (.code (.region id ops true) :: k) .normal tm σ=aK P lo Q (.code (.region id ops true) :: k) .normal ⟨tm,σ⟩:=(Eq.refl _).trans rfl
theorem Yv9 {id:Nat}:dW P lo Q (n+1) (.code (.exit id) :: k) .normal tm σ=dW P lo Q n k (.exit id) tm σ:=(Eq.refl _).trans rfl
theorem V3:dW P lo Q (n+1) (.code .ret :: k) .normal tm σ=dW P lo Q n k .ret tm σ:=(Eq.refl _).trans rfl
theorem Yqr {c:Code}:dW P lo Q (n+1) (.code (.scope c) :: k) .normal tm σ=dW P lo Q n (.code c :: .zy :: k) .normal tm σ:=(Eq.refl _).trans rfl
theorem Yop {i:Nat}:dW P lo Q (n+1) (.code (.label i) :: k) .normal tm σ=dW P lo Q n k .normal tm σ:=(Eq.refl _).trans rfl
theorem Yy2 {c:Code}:dW P lo Q (n+1) (.code (.loop c) :: k) .normal tm σ=aK P lo Q (.code (.loop c) :: k) .normal ⟨tm,σ⟩:=(Eq.refl _).trans rfl
theorem Zvk {f:Operand} {ps:Array Tmp} {a b:Code}:dW P lo Q (n+1) (.code (.rangeFunc f ps a b) :: k) .normal tm σ=aK P lo Q (.code (.rangeFunc f ps a b) :: k) .normal ⟨tm,σ⟩:=(Eq.refl _).trans rfl
theorem Yun {i:Nat}:dW P lo Q (n+1) (.code (.goto i) :: k) .normal tm σ=dW P lo Q n k (.goto i) tm σ:=(Eq.refl _).trans rfl
theorem Zug {c:Code} {i:Nat}:dW P lo Q (n+1) (.code c :: k) (.exit i) tm σ=dW P lo Q n k (.exit i) tm σ:=(Eq.refl _).trans rfl
theorem Zut {c:Code} {i:Nat}:dW P lo Q (n+1) (.code c :: k) (.goto i) tm σ=dW P lo Q n k (.goto i) tm σ:=(Eq.refl _).trans rfl
theorem WI {c:Code}:dW P lo Q (n+1) (.code c :: k) .ret tm σ=dW P lo Q n k .ret tm σ:=(Eq.refl _).trans rfl
theorem YF:dW P lo Q (n+1) (.ops all [] :: k) .normal tm σ=dW P lo Q n k .normal tm σ:=(Eq.refl _).trans rfl
theorem Zzb {o:Oper}:dW P lo Q (n+1) (.ops all (o :: l) :: k) .normal tm σ=zf P lo Q n (l8 all tm o) all o l k tm σ:=(Eq.refl _).trans rfl
theorem Zq9 {id:Nat}:dW P lo Q (n+1) (.cf id :: k) .normal tm σ=dW P lo Q n k .normal tm σ:=(Eq.refl _).trans rfl
theorem YU {id:Nat}:dW P lo Q (n+1) (.cf id :: k) .ret tm σ=dW P lo Q n k .ret tm σ:=(Eq.refl _).trans rfl
theorem Zz1 {id i:Nat}:dW P lo Q (n+1) (.cf id :: k) (.goto i) tm σ=dW P lo Q n k (.goto i) tm σ:=(Eq.refl _).trans rfl
theorem Zyp {id i:Nat}:dW P lo Q (n+1) (.cf id :: k) (.exit i) tm σ=(if i=id then dW P lo Q n k .normal tm σ else dW P lo Q n k (.exit i) tm σ):=(Eq.refl _).trans rfl
theorem Zpp:dW P lo Q (n+1) (.zy :: k) .normal tm σ=dW P lo Q n k .normal tm σ:=(Eq.refl _).trans rfl
theorem Zx:dW P lo Q (n+1) (.zy :: k) .ret tm σ=dW P lo Q n k .ret tm σ:=(Eq.refl _).trans rfl
theorem Zz6 {i:Nat}:dW P lo Q (n+1) (.zy :: k) (.exit i) tm σ=dW P lo Q n k (.exit i) tm σ:=(Eq.refl _).trans rfl
theorem Yxo {a b:Code}:zd P lo Q (n+1) (.bool true) a b k tm σ=dW P lo Q n (.code a :: k) .normal tm σ:=by simp [zd]
theorem Yo3 {a b:Code}:zd P lo Q (n+1) (.bool false) a b k tm σ=dW P lo Q n (.code b :: k) .normal tm σ:=by simp [zd]
theorem Ws {a b:Code}:zd P lo Q (n+1) .gZ a b k tm σ=(dW P lo Q n (.code a :: k) .normal tm σ∧dW P lo Q n (.code b :: k) .normal tm σ):=(Eq.refl _).trans rfl
theorem Ysw {t:Bool} {a b:Code}:zd P lo Q (n+1) (.bool t) a b k tm σ=((t=true→dW P lo Q n (.code a :: k) .normal tm σ)∧(t=false→dW P lo Q n (.code b :: k) .normal tm σ)):=(Eq.refl _).trans rfl
theorem Yu5 {o:Oper}:zf P lo Q (n+1) (some true) all o l k tm σ=mz P lo Q n o all l k tm σ:=by simp [zf]
theorem Ysc {o:Oper}:zf P lo Q (n+1) (some false) all o l k tm σ=dW P lo Q n (.ops all l :: k) .normal (put tm o.dst gone) σ:=by simp [zf]
theorem Ywk {o:Oper} {g:Bool}:zf P lo Q (n+1) (some g) all o l k tm σ=((g=true→mz P lo Q n o all l k tm σ)∧(g=false→dW P lo Q n (.ops all l :: k) .normal (put tm o.dst gone) σ)):=(Eq.refl _).trans rfl
def tU (P:Program) (lo:Ctx) (Q:cb→St→Prop) (b:Bool) (d:Option Tmp) (f:ae) (args:List ae) (all:Array Oper) (l:List Oper) (k:List KI) (tm:List ae) (σ:ai):Prop :=
 if b=true then sB P f args σ (fun r σ'=>aK P lo Q (.ops all l :: k) .normal ⟨put tm d r,σ'⟩) (fun u σ'=>aK P lo Q k (.panic u) ⟨tm,σ'⟩)
 else aq P f args σ fun r σ'=>aK P lo Q (.ops all l :: k) .normal ⟨put tm d r,σ'⟩
theorem Yul {d:Option Tmp} {f:Operand} {args:Array Operand} {ts:Array TypeId} {t:TypeId} {p:String} {a:Array Edge} {g:Option (Nat×Bool)} :
  mz P lo Q (n+1) ⟨d, .call ⟨.value f,args,ts⟩,t,p,a,g⟩ all l k tm σ=tU P lo Q (jN k) d (ev tm f) (args.toList.map (ev tm)) all l k tm σ:=(Eq.refl _).trans rfl
theorem Wb {d:Option Tmp} {f:ae} {args:List ae}:tU P lo Q false d f args all l k tm σ=aq P f args σ fun r σ'=>aK P lo Q (.ops all l :: k) .normal ⟨put tm d r,σ'⟩:=by simp [tU]
theorem Yvs {d:Option Tmp} {f:ae} {args:List ae}:tU P lo Q true d f args all l k tm σ=sB P f args σ (fun r σ'=>aK P lo Q (.ops all l :: k) .normal ⟨put tm d r,σ'⟩) (fun u σ'=>aK P lo Q k (.panic u) ⟨tm,σ'⟩):=by simp [tU]
theorem Yxj:jN []=false:=(Eq.refl _).trans rfl
theorem Yti:jN (.B0 :: k)=true:=(Eq.refl _).trans rfl
theorem Yr9 {c:Code}:jN (.code c :: k)=jN k:=(Eq.refl _).trans rfl
theorem Yv1 {l:List Oper}:jN (.ops all l :: k)=jN k:=(Eq.refl _).trans rfl
theorem Ytz {i:Nat}:jN (.cf i :: k)=jN k:=(Eq.refl _).trans rfl
theorem Yux:jN (.zy :: k)=jN k:=(Eq.refl _).trans rfl
theorem Yuz {t:TypeId} {cs:List ae}:yQ (.iface t (.agg cs))=(kp cs).map fun l=>.iface t (.agg l.toArray):=(Eq.refl _).trans rfl
theorem Ysu {t:TypeId} {i:IntKind} {m:Int}:yQ (.iface t (.int i m))=some (.iface t (.int i m)):=(Eq.refl _).trans rfl
theorem Yo7:kp []=some []:=(Eq.refl _).trans rfl
theorem Yon {i:IntKind} {m:Int} {r:List ae}:kp (.int i m :: r)=(kp r).map (.int i m :: ·):=(Eq.refl _).trans rfl
theorem Yur {u:Value} {s:St}:aK P lo Q [] (.panic u) s=Q (.panic u) s:=(Eq.refl _).trans rfl
theorem Ypp {c:Code} {u:Value} {s:St}:aK P lo Q (.code c :: k) (.panic u) s=aK P lo Q k (.panic u) s:=(Eq.refl _).trans rfl
theorem Yxg {u:Value} {s:St}:aK P lo Q (.ops all l :: k) (.panic u) s=aK P lo Q k (.panic u) s:=(Eq.refl _).trans rfl
theorem Ysy {i:Nat} {u:Value} {s:St}:aK P lo Q (.cf i :: k) (.panic u) s=aK P lo Q k (.panic u) s:=(Eq.refl _).trans rfl
theorem Yu9 {u:Value} {s:St}:aK P lo Q (.B0 :: k) (.panic u) s=aK P lo Q k (.panic u) s:=(Eq.refl _).trans rfl
theorem Wj {e:cb}:dW P lo Q (n+1) (.B0 :: k) e tm σ=dW P lo Q n k e tm σ:=by cases e<;>simp only [dW]
end
def NU:Op→Bool
 | .call ⟨.value _,_,_⟩=>true
 | .panic _=>true
 | .next _ false=>true
 | _=>false
section
variable {P:Program} {lo:Ctx} {Q:cb→St→Prop} {n:Nat} {k:List KI} {tm:List ae} {σ:ai} {all:Array Oper} {l:List Oper}
theorem Yyg {r:ae} {σ':ai} {dst:Option Tmp}:lQ P lo Q (n+1) (some (r,σ')) dst all l k tm=dW P lo Q n (.ops all l :: k) .normal (put tm dst r) σ':=(Eq.refl _).trans rfl
theorem Jv {dst:Option Tmp}:lQ P lo Q n none dst all l k tm=False:=by cases n<;>rfl
theorem Jr {c:Prop} [Decidable c] {x:Option (ae×ai)} {dst:Option Tmp}:lQ P lo Q n (if c then x else none) dst all l k tm=(c∧lQ P lo Q n x dst all l k tm):=by
 by_cases h:c<;>simp [h,Jv]
theorem Wh {c:Prop} [Decidable c] {x:c→Option (ae×ai)} {dst:Option Tmp}:lQ P lo Q n (if h:c then x h else none) dst all l k tm = ∃ h:c,lQ P lo Q n (x h) dst all l k tm:=by
 by_cases h:c<;>simp [h,Jv]
theorem Zt9 {α β:Type} {c:Prop} [Decidable c] {x:Option α} {f : α→Option β}:(if c then x else none).bind f=if c then x.bind f else none:=by split<;>rfl
theorem Zzs {α β:Type} {c:Prop} [Decidable c] {x:Option α} {f : α→β}:(if c then x else none).map f=if c then x.map f else none:=by split<;>rfl
theorem Zsg {α β:Type} {c:Prop} [Decidable c] {x:c→Option α} {f : α→Option β}:(if h:c then x h else none).bind f=if h:c then (x h).bind f else none:=by split<;>rfl
theorem Zu2 {α β:Type} {c:Prop} [Decidable c] {x:c→Option α} {f : α→β}:(if h:c then x h else none).map f=if h:c then (x h).map f else none:=by split<;>rfl
theorem Yke {tm:List ae} {d:Option Tmp} {op:Op} {t:TypeId} {p:String} {a:Array Edge}:l8 all tm ⟨d,op,t,p,a,none⟩=some true:=(Eq.refl _).trans rfl
def CI (want:Bool):Option ae→Option Bool
 | some (.bool b)=>some (b==want)
 | some (.nM v)=>if wo v then none else some false
 | _=>none
def L8 (tm:List ae) (want:Bool):Option Tmp→Option Bool
 | some d=>CI want (tm[d]?)
 | none=>none
theorem ZR {tm:List ae} {d:Option Tmp} {op:Op} {t:TypeId} {p:String} {a:Array Edge} {j:Nat} {want:Bool}:l8 all tm ⟨d,op,t,p,a,some (j,want)⟩=L8 tm want ((all.toList[j]?).bind (·.dst)):=by
 simp only [l8,L8,fX]
 cases (all[j]?.bind (·.dst)) with
 | none=>rfl
 | some d =>
  simp only [CI]
  cases tm[d]? with
  | none=>rfl
  | some v=>cases v<;>rfl
theorem Yjk {d:Tmp} {want:Bool}:L8 tm want (some d)=CI want (tm[d]?):=(Eq.refl _).trans rfl
theorem Ylt {want:Bool}:CI want (some gone)=some false:=rfl
theorem Yih {b want:Bool}:CI want (some (.bool b))=some (b==want):=(Eq.refl _).trans rfl
theorem Yv5 {t:Tmp}:ev tm (.tmp t)=tm.getD t .undef:=(Eq.refl _).trans rfl
theorem Yjj {v:Value}:ev tm (.const v)=ofValue v:=(Eq.refl _).trans rfl
theorem Yt {g:Nat}:ev tm (.global g) = .nM (.pointer (some ⟨g,0,none⟩)):=(Eq.refl _).trans rfl
theorem Yr1 {f:FuncId}:ev tm (.func f) = .fn f [] []:=(Eq.refl _).trans rfl
theorem Ysa {b:Bool}:ofValue (.bool b) = .bool b:=(Eq.refl _).trans rfl
theorem Yxp {k:IntKind} {n:Int}:ofValue (.int k n) = .int k n:=(Eq.refl _).trans rfl
theorem Ywf {s:ByteArray}:ofValue (.string s) = .str s:=(Eq.refl _).trans rfl
theorem XE:ofValue (.pointer none) = .bM:=(Eq.refl _).trans rfl
theorem Yrb:ofValue (.slice none 0 0) = .aU:=(Eq.refl _).trans rfl
theorem YT:ofValue (.map none) = .cy:=(Eq.refl _).trans rfl
theorem Yiw:ofValue .nilFunc = .az:=(Eq.refl _).trans rfl
theorem Z5:ofValue .nilIface = .fE:=(Eq.refl _).trans rfl
theorem Yjy {d:Tmp} {v:ae}:put tm (some d) v=tm.set d v:=(Eq.refl _).trans rfl
theorem Yjx {v:ae}:put tm none v=tm:=(Eq.refl _).trans rfl
theorem Xb {cs:List ae}:(ae.agg cs).cells=cs:=(Eq.refl _).trans rfl
theorem R0 {k:IntKind} {n:Int}:(ae.int k n).cells=[.int k n]:=(Eq.refl _).trans rfl
theorem Zyf {b:Bool}:(ae.bool b).cells=[.bool b]:=(Eq.refl _).trans rfl
theorem Yz {b:ByteArray}:(ae.str b).cells=[.str b]:=(Eq.refl _).trans rfl
theorem Zrs:ae.bM.cells=[.bM]:=(Eq.refl _).trans rfl
theorem Xj {b o:Nat}:(ae.ptr b o).cells=[.ptr b o]:=(Eq.refl _).trans rfl
theorem Yma {b i f:Nat}:(ae.rp b i f).cells=[.rp b i f]:=(Eq.refl _).trans rfl
theorem Ymy {cs:List ae}:(ae.pp cs).cells=[.pp cs]:=(Eq.refl _).trans rfl
theorem WK:ae.aU.cells=[.aU]:=(Eq.refl _).trans rfl
theorem Z7 {sz:Nat} {es:List ae}:(ae.ps sz es).cells=[.ps sz es]:=(Eq.refl _).trans rfl
theorem Yjh {b o m s:Nat}:(ae.os b o m s).cells=[.os b o m s]:=(Eq.refl _).trans rfl
theorem Ymq {b o m c s:Nat}:(ae.oc b o m c s).cells=[.oc b o m c s]:=(Eq.refl _).trans rfl
theorem Zvd:ae.az.cells=[.az]:=(Eq.refl _).trans rfl
theorem Yk2 {f:FuncId} {x y:List ae}:(ae.fn f x y).cells=[.fn f x y]:=(Eq.refl _).trans rfl
theorem Zd {b:Nat}:(ae.ld b).cells=[.ld b]:=(Eq.refl _).trans rfl
theorem Zsl:ae.cy.cells=[.cy]:=(Eq.refl _).trans rfl
theorem YH {b:Nat}:(ae.map b).cells=[.map b]:=(Eq.refl _).trans rfl
theorem Yjn {x y:List ae}:(ae.pm x y).cells=[.pm x y]:=(Eq.refl _).trans rfl
theorem Zt4:ae.fE.cells=[.fE]:=(Eq.refl _).trans rfl
theorem Zur {t:TypeId} {v:ae}:(ae.iface t v).cells=[.iface t v]:=(Eq.refl _).trans rfl
theorem Zu0:ae.undef.cells=[.undef]:=(Eq.refl _).trans rfl
theorem Yj2 {k:IntKind} {n:Int}:(ae.int k n).cI=true:=(Eq.refl _).trans rfl
theorem Ym {b:Bool}:(ae.bool b).cI=true:=(Eq.refl _).trans rfl
theorem Z2 {b:ByteArray}:(ae.str b).cI=true:=(Eq.refl _).trans rfl
theorem Zta:ae.bM.cI=true:=(Eq.refl _).trans rfl
theorem Ymh {b o:Nat}:(ae.ptr b o).cI=true:=(Eq.refl _).trans rfl
theorem Yrw {b i f:Nat}:(ae.rp b i f).cI=true:=(Eq.refl _).trans rfl
theorem Yrf {cs:List ae}:(ae.pp cs).cI=true:=(Eq.refl _).trans rfl
theorem YK:ae.aU.cI=true:=(Eq.refl _).trans rfl
theorem Ypd {sz:Nat} {es:List ae}:(ae.ps sz es).cI=true:=(Eq.refl _).trans rfl
theorem Ypu {b o m s:Nat}:(ae.os b o m s).cI=true:=(Eq.refl _).trans rfl
theorem Ys1 {b o m c s:Nat}:(ae.oc b o m c s).cI=true:=(Eq.refl _).trans rfl
theorem W0:ae.az.cI=true:=(Eq.refl _).trans rfl
theorem Ys6 {f:FuncId} {x y:List ae}:(ae.fn f x y).cI=true:=(Eq.refl _).trans rfl
theorem Yky {b:Nat}:(ae.ld b).cI=true:=(Eq.refl _).trans rfl
theorem Zu1:ae.cy.cI=true:=(Eq.refl _).trans rfl
theorem Yj5 {b:Nat}:(ae.map b).cI=true:=(Eq.refl _).trans rfl
theorem Yp5 {x y:List ae}:(ae.pm x y).cI=true:=(Eq.refl _).trans rfl
theorem W5:ae.fE.cI=true:=(Eq.refl _).trans rfl
theorem WN {t:TypeId} {v:ae}:(ae.iface t v).cI=true:=(Eq.refl _).trans rfl
theorem Yra {cs:List ae}:cL (.agg cs)=true:=(Eq.refl _).trans rfl
theorem Yq7 {k:IntKind} {n:Int}:cL (.int k n)=false:=(Eq.refl _).trans rfl
theorem ZG {b:Bool}:cL (.bool b)=false:=(Eq.refl _).trans rfl
theorem Yqh {b:ByteArray}:cL (.str b)=false:=(Eq.refl _).trans rfl
theorem Yxs {sz:Nat} {es:List ae}:cL (.ps sz es)=false:=(Eq.refl _).trans rfl
theorem Yx6 {b o m s:Nat}:cL (.os b o m s)=false:=(Eq.refl _).trans rfl
theorem Yya {b o m c s:Nat}:cL (.oc b o m c s)=false:=(Eq.refl _).trans rfl
theorem Z_:cL .aU=false:=(Eq.refl _).trans rfl
theorem Yqd {b o:Nat}:cL (.ptr b o)=false:=(Eq.refl _).trans rfl
theorem Zp {t:TypeId} {v:ae}:cL (.iface t v)=false:=(Eq.refl _).trans rfl
theorem Yje {b:Nat}:bF [] b=none:=by simp [bF]
theorem YQ {x:Option bE} {σ:ai}:bF (x :: σ) 0=x:=by simp [bF]
theorem Y6 {x:Option bE} {σ:ai} {b:Nat}:bF (x :: σ) (b+1)=bF σ b:=by simp [bF]
theorem Zoe {y:bE}:b_ [] 0 y=[some y]:=(Eq.refl _).trans rfl
theorem Zp2 {b:Nat} {y:bE}:b_ [] (b+1) y=none :: b_ [] b y:=by simp [b_,fw]
theorem Zj {x:Option bE} {σ:ai} {y:bE}:b_ (x :: σ) 0 y=some y :: σ:=by simp [b_]
theorem XR {x:Option bE} {σ:ai} {b:Nat} {y:bE}:b_ (x :: σ) (b+1) y=x :: b_ σ b y:=by
 simp only [b_,au,Nat.add_lt_add_iff_right]
 split
 ·simp
 ·simp
def yH (l:eI) (off:Nat):Option bE→Option ae
 | some (.var cs)=>jD l (cs.drop off)
 | _=>none
def sU (l:eI) (i f:Nat):Option bE→Option ae
 | some (.row es _)=>if i<es.length then jD l ((es.getD i .undef).cells.drop f) else none
 | _=>none
theorem Yir {l:eI} {b off:Nat}:iT σ l (.ptr b off)=yH l off (bF σ b):=by
 simp only [iT,yH];cases bF σ b with | none=>rfl | some x=>cases x<;>rfl
theorem Yns {l:eI} {b i f:Nat}:iT σ l (.rp b i f)=sU l i f (bF σ b):=by
 simp only [iT,sU];cases bF σ b with | none=>rfl | some x=>cases x<;>rfl
theorem Yok {l:eI} {cs:List ae}:iT σ l (.pp cs)=jD l cs:=(Eq.refl _).trans rfl
theorem Xi {l:eI} {off:Nat} {cs:List ae}:yH l off (some (.var cs))=jD l (cs.drop off):=(Eq.refl _).trans rfl
theorem Ztl {l:eI} {i f fz:Nat} {es:List ae}:sU l i f (some (.row es fz))=if i<es.length then jD l ((es.getD i .undef).cells.drop f) else none:=(Eq.refl _).trans rfl
theorem Yju {sz b:Nat} {z:List ae} {key:KA} {cs:List ae}:jD ⟨sz,true,b,z,key⟩ cs=if sz≤cs.length then some (.agg (cs.take sz)) else none:=(Eq.refl _).trans rfl
theorem ZH {sz b:Nat} {z:List ae} {key:KA} {c:ae} {cs:List ae}:jD ⟨sz,false,b,z,key⟩ (c :: cs)=some c:=(Eq.refl _).trans rfl
def vQ (sz off:Nat) (v:ae) (σ:ai) (b:Nat):Option bE→Option ai
 | some (.var cs)=>if off+sz≤cs.length then some (b_ σ b (.var (cr cs off v.cells))) else none
 | _=>none
def rv (sz i f:Nat) (v:ae) (σ:ai) (b:Nat):Option bE→Option ai
 | some (.row es fz)=>if fz≤i∧i<es.length∧f+sz≤(es.getD i .undef).cells.length∧0<sz then
   some (b_ σ b (.row (es.set i (jj (cL (es.getD i .undef)) (cr (es.getD i .undef).cells f v.cells))) fz)) else none
 | _=>none
theorem Xu {l:eI} {b off:Nat} {v:ae}:mg σ l (.ptr b off) v=if v.cells.length=l.sz∧v.cells.all ae.cI=true then vQ l.sz off v σ b (bF σ b) else none:=by
 simp only [mg,vQ];split
 ·cases bF σ b with | none=>rfl | some x=>cases x<;>rfl
 ·rfl
theorem Yk6 {l:eI} {b i f:Nat} {v:ae}:mg σ l (.rp b i f) v=if v.cells.length=l.sz∧v.cells.all ae.cI=true then rv l.sz i f v σ b (bF σ b) else none:=by
 simp only [mg,rv];split
 ·cases bF σ b with | none=>rfl | some x=>cases x<;>rfl
 ·rfl
theorem W1 {sz off b:Nat} {v:ae} {cs:List ae}:vQ sz off v σ b (some (.var cs))=if off+sz≤cs.length then some (b_ σ b (.var (cr cs off v.cells))) else none:=(Eq.refl _).trans rfl
theorem Zqg {sz i f b fz:Nat} {v:ae} {es:List ae}:rv sz i f v σ b (some (.row es fz))=if fz≤i∧i<es.length∧f+sz≤(es.getD i .undef).cells.length∧0<sz then
   some (b_ σ b (.row (es.set i (jj (cL (es.getD i .undef)) (cr (es.getD i .undef).cells f v.cells))) fz)) else none:=(Eq.refl _).trans rfl
theorem Zuk {cs:List ae} {o:Nat}:cr cs o []=cs:=(Eq.refl _).trans rfl
theorem Zrl {cs vs:List ae} {o:Nat} {v:ae}:cr cs o (v :: vs)=cr (cs.set o v) (o+1) vs:=(Eq.refl _).trans rfl
theorem Zyr {cs:List ae}:jj true cs = .agg cs:=(Eq.refl _).trans rfl
theorem Wx {c:ae} {cs:List ae}:jj false (c :: cs)=c:=(Eq.refl _).trans rfl
end
def t_:ae→Nat→Option ae
 | .ptr b o,off=>some (.ptr b (o+off))
 | .rp b i f,off=>some (.rp b i (f+off))
 | .pp cs,off=>some (.pp (cs.drop off))
 | _,_=>none
def L6 (x:ae):Option (Nat×Option eI)→Option ae
 | some (off,some l)=>if l.sz≠0 then t_ x off else none
 | _=>none
section
variable {sz bs:Nat} {ag:Bool} {z:List ae} {fl:List (Nat×Option eI)} {e kt:Option eI} {x y:ae} {i:Nat}
theorem Zoi:jL ⟨⟨sz,ag,bs,z, .struct⟩,fl,e,kt⟩ x i=L6 x fl[i]?:=by
 simp only [jL,jH.kind]
 rcases fl[i]? with _ | ⟨off,_ | l⟩
 ·rfl
 ·rfl
 ·simp only [L6];cases x<;>rfl
theorem Yld {off:Nat} {l:eI}:L6 x (some (off,some l))=if l.sz≠0 then t_ x off else none:=(Eq.refl _).trans rfl
theorem Yr {b o off:Nat}:t_ (.ptr b o) off=some (.ptr b (o+off)):=(Eq.refl _).trans rfl
theorem Ykk {b i f off:Nat}:t_ (.rp b i f) off=some (.rp b i (f+off)):=(Eq.refl _).trans rfl
theorem Yko {cs:List ae} {off:Nat}:t_ (.pp cs) off=some (.pp (cs.drop off)):=(Eq.refl _).trans rfl
def FW (cs:List ae):Option (Nat×Option eI)→Option ae
 | some (off,some l)=>jD l (cs.drop off)
 | _=>none
theorem XO {cs:List ae}:pD ⟨⟨sz,ag,bs,z, .struct⟩,fl,e,kt⟩ (.agg cs) i=FW cs fl[i]?:=by
 simp only [pD,jH.kind]
 rcases fl[i]? with _ | ⟨off,_ | l⟩<;>rfl
theorem XJ {cs:List ae} {off:Nat} {l:eI}:FW cs (some (off,some l))=jD l (cs.drop off):=(Eq.refl _).trans rfl
theorem Yzc {l:eI} {b off n s:Nat} {k:IntKind} {i:Int}:fg ⟨⟨sz,ag,bs,z, .slice⟩,fl,some l,kt⟩ (.os b off n s) (.int k i)=if l.sz=s∧0≤i∧i<n then some (.rp b (off+i.toNat) 0) else none:=by
 simp [fg,jH.kind,jH.uR]
theorem Yzh {l:eI} {b off n c s:Nat} {k:IntKind} {i:Int}:fg ⟨⟨sz,ag,bs,z, .slice⟩,fl,some l,kt⟩ (.oc b off n c s) (.int k i)=if l.sz=s∧0≤i∧i<n then some (.rp b (off+i.toNat) 0) else none:=by
 simp [fg,jH.kind,jH.uR]
theorem Yzo {l:eI} {s:Nat} {es:List ae} {k:IntKind} {i:Int}:fg ⟨⟨sz,ag,bs,z, .slice⟩,fl,some l,kt⟩ (.ps s es) (.int k i)=if l.sz=s∧0≤i∧i<es.length then some (.pp (es.getD i.toNat .undef).cells) else none:=by
 simp [fg,jH.kind,jH.uR]
theorem Ywo {l:eI} {b off m:Nat} {k:IntKind} {i:Int}:fg ⟨⟨sz,ag,bs,z, .array m⟩,fl,some l,kt⟩ (.ptr b off) (.int k i)=if 0≤i∧i<m then some (.ptr b (off+i.toNat*l.sz)) else none:=(Eq.refl _).trans rfl
theorem Yu8 {l:eI} {cs:List ae} {m:Nat} {k:IntKind} {i:Int}:pJ ⟨⟨sz,ag,bs,z, .array m⟩,fl,some l,kt⟩ (.agg cs) (.int k i)=if 0≤i∧i<m then jD l (cs.drop (i.toNat*l.sz)) else none:=(Eq.refl _).trans rfl
theorem Yw7 {s:ByteArray} {k:IntKind} {i:Int}:pJ ⟨⟨sz,ag,bs,z, .str⟩,fl,e,kt⟩ (.str s) (.int k i)=if h : 0≤i∧i.toNat<s.size then some (.int .u8 (s[i.toNat]'h.2).toNat) else none:=by
 by_cases h : 0≤i∧i.toNat<s.size
 ·rw [dif_pos h];exact dif_pos (⟨h,rfl⟩:(0≤i∧i.toNat<s.size)∧KA.str=KA.str)
 ·rw [dif_neg h];exact dif_neg (fun q:(0≤i∧i.toNat<s.size)∧KA.str=KA.str=>h q.1)
def yF (k:KA) (σ:ai) (x:ae):Option (ae×ai) :=
 match k with
 | .array n=>some (.int .i64 n,σ)
 | .str | .slice | .map=>(ng k σ x).map fun (n:Nat)=>(ae.int .i64 (n:Int),σ)
 | _=>none
theorem Yq5 {P:Program} {op:BinOp} {t:TypeId} {k k':IntKind} {a b:Int}:qE P op t (.int k a) (.int k' b)=if k=k' then iA op k a b else none:=(Eq.refl _).trans rfl
theorem Yp7 {P:Program} {op:BinOp} {t:TypeId} {a b:ByteArray}:qE P op t (.str a) (.str b)=mh op a b:=(Eq.refl _).trans rfl
theorem Yl3 {P:Program} {op:BinOp} {t:TypeId} {a b:Bool}:qE P op t (.bool a) (.bool b)=lN P op t (.bool a) (.bool b):=(Eq.refl _).trans rfl
theorem Yoe {P:Program} {op:BinOp} {t:TypeId} {a b:List ae}:qE P op t (.agg a) (.agg b)=lN P op t (.agg a) (.agg b):=(Eq.refl _).trans rfl
theorem WH {P:Program} {op:BinOp} {t:TypeId} {ks vs:List ae}:qE P op t (.pm ks vs) .cy=lN P op t (.pm ks vs) .cy:=(Eq.refl _).trans rfl
theorem Zu3 {P:Program} {op:BinOp} {t:TypeId} {b:Nat}:qE P op t (.map b) .cy=lN P op t (.map b) .cy:=(Eq.refl _).trans rfl
theorem Ztm {P:Program} {op:BinOp} {t:TypeId}:qE P op t .cy .cy=lN P op t .cy .cy:=(Eq.refl _).trans rfl
theorem Wq {ks vs:List ae}:ln (.pm ks vs)=some true:=(Eq.refl _).trans rfl
theorem Yuv {b:Nat}:ln (.map b)=some true:=(Eq.refl _).trans rfl
theorem Yvi:ln .cy=some false:=(Eq.refl _).trans rfl
theorem Yus {k:IntKind} {a b:Int}:iA .add k a b=some (.int k (k.wrap (a+b))):=(Eq.refl _).trans rfl
theorem Yx8 {k:IntKind} {a b:Int}:iA .sub k a b=some (.int k (k.wrap (a - b))):=(Eq.refl _).trans rfl
theorem Ysz {k:IntKind} {a b:Int}:iA .mul k a b=some (.int k (k.wrap (a*b))):=(Eq.refl _).trans rfl
theorem Yvp {k:IntKind} {a b:Int}:iA .quo k a b=if b≠0 then some (.int k (k.wrap (a.tdiv b))) else none:=(Eq.refl _).trans rfl
theorem Yu7 {k:IntKind} {a b:Int}:iA .rem k a b=if b≠0 then some (.int k (a.tmod b)) else none:=(Eq.refl _).trans rfl
theorem Yu0 {k:IntKind} {a b:Int}:iA .eql k a b=some (.bool (decide (a=b))):=(Eq.refl _).trans rfl
theorem Ytm {k:IntKind} {a b:Int}:iA .neq k a b=some (.bool (decide (a≠b))):=(Eq.refl _).trans rfl
theorem Ywg {k:IntKind} {a b:Int}:iA .lss k a b=some (.bool (decide (a<b))):=(Eq.refl _).trans rfl
theorem Yyb {k:IntKind} {a b:Int}:iA .leq k a b=some (.bool (decide (a≤b))):=(Eq.refl _).trans rfl
theorem Yum {k:IntKind} {a b:Int}:iA .gtr k a b=some (.bool (decide (b<a))):=(Eq.refl _).trans rfl
theorem Yvv {k:IntKind} {a b:Int}:iA .geq k a b=some (.bool (decide (b≤a))):=(Eq.refl _).trans rfl
theorem Yql {P:Program} {t:TypeId}:lN P .eql t x y=(tZ P t x y).map .bool:=(Eq.refl _).trans rfl
theorem Yq1 {P:Program} {t:TypeId}:lN P .neq t x y=(tZ P t x y).map fun b=>.bool !b:=(Eq.refl _).trans rfl
def Ah (P:Program) (t:TypeId) (x y:ae):Option KA→Option Bool
 | some .bool=>match x,y with
  | .bool a, .bool b=>some (a==b)
  | _,_=>none
 | some .ptr=>match ny x,ny y with
  | some false,some b=>some (!b)
  | some true,some false=>some false
  | _,_=>none
 | some .map=>match y with
  | .cy=>(ln x).map (!·)
  | _=>none
 | some .iface=>match kx x,kx y with
  | some true,some false | some false,some true=>some false
  | some false,some false=>if qo P t=true then some true else none
  | _,_=>none
 | some .func=>match jW x,jW y with
  | some false,some b=>some (!b)
  | some true,some false=>some false
  | _,_=>none
 | some .struct=>match x,y with
  | .agg xs, .agg ys=>if xs.map sm=ys.map sm∧tY P t (xs.map sm)=true then some (kj xs ys) else none
  | _,_=>none
 | _=>none
theorem Ym8 {P:Program} {t:TypeId}:tZ P t x y=Ah P t x y (iB P t):=by
 unfold tZ
 cases iB P t with
 | none=>rfl
 | some K=>cases K<;>(try rfl)<;>(cases x<;>(try rfl)<;>cases y<;>rfl)
theorem Ylp {P:Program} {t:TypeId} {a b:Bool}:Ah P t (.bool a) (.bool b) (some .bool)=some (a==b):=(Eq.refl _).trans rfl
theorem WS {P:Program} {t:TypeId} {a b:List ae}:Ah P t (.agg a) (.agg b) (some .struct)=if a.map sm=b.map sm∧tY P t (a.map sm)=true then some (kj a b) else none:=(Eq.refl _).trans rfl
theorem Yrx {P:Program} {t:TypeId}:Ah P t x .cy (some .map)=(ln x).map (!·):=(Eq.refl _).trans rfl
theorem Yzu {f:FuncId} {a b:List ae}:jW (.fn f a b)=some true:=(Eq.refl _).trans rfl
theorem Yxi:jW .az=some false:=(Eq.refl _).trans rfl
theorem Yrl {k:IntKind} {a:Int}:sm (.int k a) = .int k:=(Eq.refl _).trans rfl
theorem O6 {a:ByteArray}:sm (.str a) = .str:=(Eq.refl _).trans rfl
theorem Ymt {a:Bool}:sm (.bool a) = .bool:=(Eq.refl _).trans rfl
theorem Ytp {a b:ByteArray}:mh .add a b=if a.size+b.size≤1000000000 then some (.str (a++b)) else none:=(Eq.refl _).trans rfl
theorem Yx1 {a b:ByteArray}:mh .eql a b=some (.bool (a.toList==b.toList)):=(Eq.refl _).trans rfl
theorem Yub {a b:ByteArray}:mh .neq a b=some (.bool !(a.toList==b.toList)):=(Eq.refl _).trans rfl
theorem Yxm {a b:ByteArray}:mh .lss a b=some (.bool (Op.bytesLess a.toList b.toList)):=(Eq.refl _).trans rfl
theorem Yvj {b:Bool}:EO .not (.bool b)=some (.bool !b):=(Eq.refl _).trans rfl
theorem Ywq {k:IntKind} {a:Int}:EO .neg (.int k a)=some (.int k (k.wrap (0 - a))):=(Eq.refl _).trans rfl
theorem Yrp {c a b:Bool}:oX (.bool c) (.bool a) (.bool b)=some (.bool (if c then a else b)):=(Eq.refl _).trans rfl
theorem Yxy {c:Bool} {k k':IntKind} {a b:Int}:oX (.bool c) (.int k a) (.int k' b)=some (if c then .int k a else .int k' b):=(Eq.refl _).trans rfl
variable {σ:ai}
theorem Ys0 {s:ByteArray}:ng .str σ (.str s)=some s.size:=(Eq.refl _).trans rfl
theorem Yxz {s:Nat} {es:List ae}:ng .slice σ (.ps s es)=some es.length:=(Eq.refl _).trans rfl
theorem Yk0:ng .slice σ .aU=some 0:=(Eq.refl _).trans rfl
theorem Yvk {b o n s:Nat}:ng .slice σ (.os b o n s)=some n:=(Eq.refl _).trans rfl
theorem Ytc {b o n c s:Nat}:ng .slice σ (.oc b o n c s)=some n:=(Eq.refl _).trans rfl
theorem Zzp:ng .map σ .cy=some 0:=(Eq.refl _).trans rfl
theorem Yt6 {ks vs:List ae}:ng .map σ (.pm ks vs)=some ks.length:=(Eq.refl _).trans rfl
def Dz:Option bE→Option Nat
 | some (.map ks _ _)=>some ks.length
 | _=>none
theorem Yrh {b:Nat}:ng .map σ (.map b)=Dz (bF σ b):=by
 simp only [ng,Dz];cases bF σ b with | none=>rfl | some x=>cases x<;>rfl
theorem Y_ {ks vs:List ae} {f:Bool}:Dz (some (.map ks vs f))=some ks.length:=(Eq.refl _).trans rfl
theorem Yzd {s sz:Nat} {es:List ae}:eM σ sz (.ps s es)=if s=sz then some es else none:=(Eq.refl _).trans rfl
theorem Yo2 {sz:Nat}:eM σ sz .aU=some []:=(Eq.refl _).trans rfl
def tW (off n:Nat):Option bE→Option (List ae)
 | some (.row es _)=>if off+n≤es.length then some ((es.drop off).take n) else none
 | _=>none
theorem Wc {sz b off n s:Nat}:eM σ sz (.os b off n s)=if s=sz then tW off n (bF σ b) else none:=by
 simp only [eM,tW];split
 ·cases bF σ b with | none=>rfl | some x=>cases x<;>rfl
 ·rfl
theorem Wn {sz b off n c s:Nat}:eM σ sz (.oc b off n c s)=if s=sz then tW off n (bF σ b) else none:=by
 simp only [eM,tW];split
 ·cases bF σ b with | none=>rfl | some x=>cases x<;>rfl
 ·rfl
theorem WW {off n fz:Nat} {es:List ae}:tW off n (some (.row es fz))=if off+n≤es.length then some ((es.drop off).take n) else none:=(Eq.refl _).trans rfl
def FP (k:KA) (σ:ai) (x:ae):Option (ae×ai) :=
 match k with
 | .slice=>(ve x).map fun (n:Nat)=>(ae.int .i64 (n:Int),σ)
 | _=>none
theorem Yy3 {P:Program} {nm:Nat} {t:TypeId}:e7 P σ nm .len [t] [x]=(bJ P t).bind fun T=>yF T.kind σ x:=by
 rfl
theorem Yix {m:Nat}:yF (.array m) σ x=some (.int .i64 m,σ):=(Eq.refl _).trans rfl
theorem Ylg:yF .str σ x=(ng .str σ x).map fun (n:Nat)=>(ae.int .i64 (n:Int),σ):=(Eq.refl _).trans rfl
theorem WL:yF .slice σ x=(ng .slice σ x).map fun (n:Nat)=>(ae.int .i64 (n:Int),σ):=(Eq.refl _).trans rfl
theorem Ymw:yF .map σ x=(ng .map σ x).map fun (n:Nat)=>(ae.int .i64 (n:Int),σ):=(Eq.refl _).trans rfl
theorem UK {L:eI}:jH.kind ⟨L,fl,e,kt⟩=L.key:=(Eq.refl _).trans rfl
def wL (σ:ai) (nm:Nat) (e:eI) (s x:ae):KA→Option (ae×ai)
 | .slice=>(eM σ e.sz x).bind fun xs=>ef σ nm e s xs
 | .str=>match x with
  | .str y=>if e.sz=1 then ef σ nm e s (bytesOf y) else none
  | _=>none
 | .int _=>match x with
  | .int .i64 n=>if 0≤n∧n≤1000000000∧IntKind.i64.wrap n=n then ef σ nm e s (List.replicate n.toNat (zeroV e)) else none
  | _=>none
 | _=>none
theorem Yuu {P:Program} {nm:Nat} {t u:TypeId} {s:ae}:e7 P σ nm .append [t,u] [s,x]=(bJ P t).bind fun T=>(bJ P u).bind fun U=>match T.kind,T.elem with
  | .slice,some e=>wL σ nm e s x U.kind
  | _,_=>none:=by
 simp only [e7]
 congr;funext T;congr;funext U
 cases T.kind<;>(try rfl)<;>cases T.elem<;>(try rfl)<;>cases U.kind<;>rfl
def FL (σ:ai) (nm:Nat) (s x:ae) (U:jH):KA→Option eI→Option (ae×ai)
 | .slice,some e=>wL σ nm e s x U.kind
 | _,_=>none
theorem X4 {P:Program} {nm:Nat} {t u:TypeId} {s:ae}:e7 P σ nm .append [t,u] [s,x]=(bJ P t).bind fun T=>(bJ P u).bind fun U=>FL σ nm s x U T.kind T.elem:=by
 rw [Yuu];congr
theorem Zzq {nm:Nat} {s:ae} {U:jH} {l:eI}:FL σ nm s x U .slice (some l)=wL σ nm l s x U.kind:=(Eq.refl _).trans rfl
theorem Zzt {nm:Nat} {l:eI} {s:ae}:wL σ nm l s x .slice=(eM σ l.sz x).bind fun xs=>ef σ nm l s xs:=(Eq.refl _).trans rfl
theorem Yjo {nm:Nat} {l:eI} {s:ae} {y:ByteArray}:wL σ nm l s (.str y) .str=if l.sz=1 then ef σ nm l s (bytesOf y) else none:=(Eq.refl _).trans rfl
theorem Yj9 {nm:Nat} {l:eI} {s:ae} {k:IntKind} {n:Int}:wL σ nm l s (.int .i64 n) (.int k)=if 0≤n∧n≤1000000000∧IntKind.i64.wrap n=n then ef σ nm l s (List.replicate n.toNat (zeroV l)) else none:=(Eq.refl _).trans rfl
theorem Yyc {P:Program} {nm:Nat} {t:TypeId}:e7 P σ nm .cap [t] [x]=(bJ P t).bind fun T=>FP T.kind σ x:=by
 simp only [e7];congr
theorem Zz2:FP .slice σ x=(ve x).map fun (n:Nat)=>(ae.int .i64 (n:Int),σ):=(Eq.refl _).trans rfl
theorem XL:ve .aU=some 0:=(Eq.refl _).trans rfl
theorem Yob {b o n c s:Nat}:ve (.oc b o n c s)=some c:=(Eq.refl _).trans rfl
def FR (σ:ai) (x:ae):KA→Option eI→Option (ae×ai)
 | .slice,some e=>(km x).bind fun n=>if n=0 then some (.dy [],σ) else (kh σ e.sz x (List.replicate n (zeroV e))).map (.dy [], ·)
 | _,_=>none
theorem Yjm {P:Program} {nm:Nat} {t:TypeId}:e7 P σ nm .clear [t] [x]=(bJ P t).bind fun T=>FR σ x T.kind T.elem:=by
 simp only [e7];congr
theorem Wy {l:eI}:FR σ x .slice (some l)=(km x).bind fun n=>if n=0 then some (.dy [],σ) else (kh σ l.sz x (List.replicate n (zeroV l))).map (.dy [], ·):=(Eq.refl _).trans rfl
def FT (σ:ai) (d x:ae):KA→Option eI→KA→Option (ae×ai)
 | .slice,some e, .slice=>(km d).bind fun n=>(eM σ e.sz x).bind fun xs=>(kh σ e.sz d (xs.take n)).map (ae.int .i64 ((xs.take n).length:Int), ·)
 | _,_,_=>none
theorem Yri {P:Program} {nm:Nat} {t u:TypeId} {d:ae}:e7 P σ nm .copy [t,u] [d,x]=(bJ P t).bind fun T=>(bJ P u).bind fun U=>FT σ d x T.kind T.elem U.kind:=by
 simp only [e7];congr
theorem Zz0 {l:eI} {d:ae}:FT σ d x .slice (some l) .slice=(km d).bind fun n=>(eM σ l.sz x).bind fun xs=>(kh σ l.sz d (xs.take n)).map (ae.int .i64 ((xs.take n).length:Int), ·):=(Eq.refl _).trans rfl
theorem Zs:km .aU=some 0:=(Eq.refl _).trans rfl
theorem Yo9 {b o n s:Nat}:km (.os b o n s)=some n:=(Eq.refl _).trans rfl
theorem Ysj {b o n c s:Nat}:km (.oc b o n c s)=some n:=(Eq.refl _).trans rfl
theorem Ypx {s:Nat} {es:List ae}:km (.ps s es)=some es.length:=(Eq.refl _).trans rfl
def mR (sz:Nat) (xs:List ae):Prop:=∀ x∈xs,x.cells.length=sz∧x.cells.all ae.cI=true
open Classical in
noncomputable def uC (σ:ai) (sz b off n xc:Nat) (xs:List ae):Option bE→Option ai
 | some (.row es fz)=>if xc=sz∧0<sz∧fz≤off∧xs.length≤n∧off+n≤es.length∧mR sz xs then some (b_ σ b (.row (cr es off xs) fz)) else none
 | _=>none
theorem R3 {sz:Nat} {xs:List ae}:xs.all (fun x=>x.cells.length==sz&&x.cells.all ae.cI)=true↔mR sz xs:=by simp [mR]
theorem Yza {sz b off n s:Nat} {xs:List ae}:kh σ sz (.os b off n s) xs=uC σ sz b off n s xs (bF σ b):=by
 simp only [kh,uC,← R3];cases bF σ b with | none=>rfl | some x=>cases x<;>rfl
theorem Wa {sz b off n c s:Nat} {xs:List ae}:kh σ sz (.oc b off n c s) xs=uC σ sz b off n s xs (bF σ b):=by
 simp only [kh,uC,← R3];cases bF σ b with | none=>rfl | some x=>cases x<;>rfl
open Classical in
theorem W7 {sz b off n s fz:Nat} {xs es:List ae}:uC σ sz b off n s xs (some (.row es fz))=if s=sz∧0<sz∧fz≤off∧xs.length≤n∧off+n≤es.length∧mR sz xs then some (b_ σ b (.row (cr es off xs) fz)) else none:=(Eq.refl _).trans rfl
def vb (σ:ai) (nm:Nat) (e:eI) (b off n sz:Nat) (xs:List ae):Option bE→Option (ae×ai)
 | some (.row es fz)=>if sz=e.sz∧fz≤off+n∧off+n≤es.length∧n+xs.length≤cK e.bytes then
         some (.os nm 0 (n+xs.length) sz,b_ (σ.set b none) nm (.row ((es.drop off).take n++xs) (fz - off)))
    else none
 | _=>none
def eL (e:eI) (xs:List ae):Prop:=(∀ x∈xs,x.cells.length=e.sz∧x.cells.all ae.cI=true)∧0<e.sz∧e.bytes≤65536∧e.zero.length=e.sz
theorem Ko {e:eI} {xs:List ae}:(xs.all (fun x=>x.cells.length==e.sz&&x.cells.all ae.cI)=true∧0<e.sz∧e.bytes≤65536∧e.zero.length=e.sz)↔eL e xs:=by
 simp [eL]
open Classical in
theorem K9 {nm:Nat} {l:eI} {xs:List ae}:ef σ nm l .aU xs=if eL l xs then (if xs.length=0 then some (.aU,σ) else if xs.length≤cK l.bytes then some (.os nm 0 xs.length l.sz,b_ σ nm (.row xs 0)) else none) else none:=by
 unfold ef l5
 simp only [← Ko]
open Classical in
theorem JA {nm:Nat} {l:eI} {xs:List ae} {b off n s:Nat}:ef σ nm l (.os b off n s) xs=if eL l xs then vb σ nm l b off n s xs (bF σ b) else none:=by
 unfold ef l5
 simp only [← Ko]
 split
 ·simp only [vb];cases bF σ b with | none=>rfl | some x=>cases x<;>rfl
 ·rfl
theorem JQ {nm:Nat} {l:eI} {b off n s fz:Nat} {xs es:List ae}:vb σ nm l b off n s xs (some (.row es fz))=if s=l.sz∧fz≤off+n∧off+n≤es.length∧n+xs.length≤cK l.bytes then
     some (.os nm 0 (n+xs.length) s,b_ (σ.set b none) nm (.row ((es.drop off).take n++xs) (fz - off))) else none:=(Eq.refl _).trans rfl
def sH (σ:ai) (nm b off n c sz IV:Nat) (xs:List ae):Option bE→Option (ae×ai)
 | some (.row es fz)=>if off+n≤es.length then
    if n+xs.length≤c then (if fz≤off+n∧off+n+xs.length≤es.length then some (.oc b off (n+xs.length) c sz,b_ σ b (.row (cr es (off+n) xs) fz)) else none)
    else if n+xs.length≤cK IV then some (.os nm 0 (n+xs.length) sz,b_ σ nm (.row ((es.drop off).take n++xs) 0)) else none
   else none
 | _=>none
open Classical in
theorem Yta {nm:Nat} {l:eI} {xs:List ae} {b off n c s:Nat}:ef σ nm l (.oc b off n c s) xs=if eL l xs∧s=l.sz then sH σ nm b off n c s l.bytes xs (bF σ b) else none:=by
 unfold ef nx
 simp only [← Ko]
 by_cases h1:(xs.all (fun x=>x.cells.length==l.sz&&x.cells.all ae.cI)=true∧0<l.sz∧l.bytes≤65536∧l.zero.length=l.sz)
 ·simp only [h1,and_true,true_and,if_true]
  by_cases h2:s=l.sz
  ·simp only [h2,true_and,if_true,sH];cases bF σ b with | none=>rfl | some x=>cases x<;>rfl
  ·simp only [h2,false_and,if_false];cases bF σ b with | none=>rfl | some x=>cases x<;>rfl
 ·rw [if_neg h1,if_neg (fun h=>h1 h.1)]
theorem Zrf {nm b off n c s IV fz:Nat} {xs es:List ae}:sH σ nm b off n c s IV xs (some (.row es fz))=if off+n≤es.length then
    if n+xs.length≤c then (if fz≤off+n∧off+n+xs.length≤es.length then some (.oc b off (n+xs.length) c s,b_ σ b (.row (cr es (off+n) xs) fz)) else none)
    else if n+xs.length≤cK IV then some (.os nm 0 (n+xs.length) s,b_ σ nm (.row ((es.drop off).take n++xs) 0)) else none
   else none:=(Eq.refl _).trans rfl
theorem Yw6 {P:Program} {nm:Nat} {ts:List TypeId} {rest:List ae}:e7 P σ nm .max ts (x :: rest)=(fy (fun a b=>if a<b then b else a) x rest).map (·,σ):=(Eq.refl _).trans rfl
theorem Yuk {P:Program} {nm:Nat} {ts:List TypeId} {rest:List ae}:e7 P σ nm .min ts (x :: rest)=(fy (fun a b=>if b<a then b else a) x rest).map (·,σ):=(Eq.refl _).trans rfl
theorem Yxd {f:Int→Int→Int}:fy f x []=some x:=by cases x<;>rfl
theorem Yrm {f:Int→Int→Int} {k k':IntKind} {a b:Int} {rest:List ae}:fy f (.int k a) (.int k' b :: rest)=fy f (.int k (f a b)) rest:=(Eq.refl _).trans rfl
theorem Ywn {s:ByteArray} {lo hi:Option ae}:iN ⟨⟨sz,ag,bs,z, .str⟩,fl,e,kt⟩ (.str s) lo hi none=(wU s.size hi).bind fun h=>(rh h lo).bind fun l=>some (.str (s.extract l h)):=(Eq.refl _).trans rfl
theorem Yzk {l0:eI} {s:Nat} {es:List ae} {lo hi:Option ae}:iN ⟨⟨sz,ag,bs,z, .slice⟩,fl,some l0,kt⟩ (.ps s es) lo hi none=if l0.sz=s then (wU es.length hi).bind fun h=>(rh h lo).bind fun l=>some (.ps s ((es.drop l).take (h - l))) else none:=by
 simp [iN,jH.kind,jH.uR]
theorem Yzf {l0:eI} {b off n s:Nat} {lo hi:Option ae}:iN ⟨⟨sz,ag,bs,z, .slice⟩,fl,some l0,kt⟩ (.os b off n s) lo hi none=if l0.sz=s then (wU n hi).bind fun h=>(rh h lo).bind fun l=>some (.os b (off+l) (h - l) s) else none:=by
 simp [iN,jH.kind,jH.uR]
theorem Yzn {l0:eI} {b off n c s:Nat} {lo hi:Option ae}:iN ⟨⟨sz,ag,bs,z, .slice⟩,fl,some l0,kt⟩ (.oc b off n c s) lo hi none=if l0.sz=s then (C2 n c hi).bind fun h=>(rh h lo).bind fun l=>some (.oc b (off+l) (h - l) (c - l) s) else none:=by
 simp [iN,jH.kind,jH.uR]
theorem Yyh {l0:eI} {b off n c s:Nat} {lo:Option ae} {k k':IntKind} {hi mx:Int}:iN ⟨⟨sz,ag,bs,z, .slice⟩,fl,some l0,kt⟩ (.oc b off n c s) lo (some (.int k hi)) (some (.int k' mx))=if l0.sz=s then (if (0:Int)≤mx∧mx≤c then (if (0:Int)≤hi∧hi≤mx.toNat then (rh hi.toNat lo).bind fun l=>some (.oc b (off+l) (hi.toNat - l) (mx.toNat - l) s) else none) else none) else none:=by
 have e:∀ (n:Nat) (k:IntKind) (i:Int),jB 0 n (.int k i)=if (0:Int)≤i∧i≤n then some i.toNat else none:=fun n k i=>by simp [jB]
 simp only [iN,jH.kind,jH.uR,bw,true_and,aE]
 by_cases h1:l0.sz=s
 ·rw [if_pos h1,if_pos h1,e]
  by_cases h2:(0:Int)≤mx∧mx≤c
  ·rw [if_pos h2,if_pos h2,ew,ew,e]
   by_cases h3:(0:Int)≤hi∧hi≤mx.toNat
   ·rw [if_pos h3,if_pos h3,ew]
   ·rw [if_neg h3,if_neg h3];rfl
  ·rw [if_neg h2,if_neg h2];rfl
 ·rw [if_neg h1,if_neg h1]
theorem Yk4 {n c:Nat}:C2 n c none=some n:=(Eq.refl _).trans rfl
theorem Yjz {n c:Nat} {k:IntKind} {i:Int}:C2 n c (some (.int k i))=if (0:Int)≤i∧i≤c then some i.toNat else none:=by simp [C2,jB]
theorem Yoo {l0:eI} {lo hi:Option ae}:iN ⟨⟨sz,ag,bs,z, .slice⟩,fl,some l0,kt⟩ .aU lo hi none=(wU 0 hi).bind fun h=>(rh h lo).bind fun _=>some .aU:=by
 simp [iN,jH.kind]
theorem Yr4 {n:Nat}:wU n none=some n:=(Eq.refl _).trans rfl
theorem Yrj {n:Nat} {k:IntKind} {i:Int}:wU n (some (.int k i))=if (0:Int)≤i∧i≤n then some i.toNat else none:=by simp [wU,jB]
theorem Yqo {n:Nat}:rh n none=some 0:=(Eq.refl _).trans rfl
theorem Yqu {n:Nat} {k:IntKind} {i:Int}:rh n (some (.int k i))=if (0:Int)≤i∧i≤n then some i.toNat else none:=by simp [rh,jB]
theorem YR {ρ:Operand→ae} {parts:List (Nat×Operand)}:og ⟨⟨sz,ag,bs,z, .struct⟩,fl,e,kt⟩ ρ parts=if fl.all (·.2.isSome)=true then (kf fl ρ z parts).map .agg else none:=(Eq.refl _).trans rfl
theorem Ykm {l0:eI} {m:Nat} {ρ:Operand→ae} {parts:List (Nat×Operand)}:og ⟨⟨sz,ag,bs,z, .array m⟩,fl,some l0,kt⟩ ρ parts=(kf ((List.range m).map fun i=>(i*l0.sz,some l0)) ρ z parts).map .agg:=(Eq.refl _).trans rfl
def xR (oO:List (Nat×Option eI)) (ρ:Operand→ae) (cs:List ae) (v:ae) (rest:List (Nat×Operand)):Option (Nat×Option eI)→Option (List ae)
 | some (off,some l)=>if v.cells.length=l.sz∧off+l.sz≤cs.length∧v.cells.all ae.cI=true then kf oO ρ (cr cs off v.cells) rest else none
 | _=>none
theorem Ykp {ρ:Operand→ae} {cs:List ae}:kf fl ρ cs []=some cs:=(Eq.refl _).trans rfl
theorem X9 {ρ:Operand→ae} {cs:List ae} {i:Nat} {o:Operand} {rest:List (Nat×Operand)}:kf fl ρ cs ((i,o) :: rest)=xR fl ρ cs (ρ o) rest fl[i]?:=by
 simp only [kf,xR]
 rcases fl[i]? with _ | ⟨off,_ | l⟩<;>rfl
theorem Zz7 {ρ:Operand→ae} {cs:List ae} {v:ae} {rest:List (Nat×Operand)} {off:Nat} {l:eI}:xR fl ρ cs v rest (some (off,some l))=if v.cells.length=l.sz∧off+l.sz≤cs.length∧v.cells.all ae.cI=true then kf fl ρ (cr cs off v.cells) rest else none:=(Eq.refl _).trans rfl
theorem Ypf {l0:eI} {ρ:Operand→ae} {k:Nat}:pQ l0 ρ k []=some []:=(Eq.refl _).trans rfl
theorem Yl2 {l0:eI} {ρ:Operand→ae} {k i:Nat} {o:Operand} {rest:List (Nat×Operand)}:pQ l0 ρ k ((i,o) :: rest)=if i=k∧(ρ o).cells.length=l0.sz∧cL (ρ o)=l0.ag∧(ρ o).cells.all ae.cI=true then (pQ l0 ρ (k+1) rest).map (ρ o :: ·) else none:=(Eq.refl _).trans rfl
theorem Ywb {nm:Nat} {l0:eI} {l c:Int}:jP σ nm ⟨⟨sz,ag,bs,z, .slice⟩,fl,some l0,kt⟩ (.int .i64 l) (.int .i64 c)=if 0≤l∧l≤c∧c≤1000000000∧l0.bytes≤65536∧0<l0.sz∧l0.zero.length=l0.sz then some (.os nm 0 l.toNat l0.sz,b_ σ nm (.row (List.replicate l.toNat (zeroV l0)) 0)) else none:=(Eq.refl _).trans rfl
theorem Ywt {s b:Nat} {z:List ae} {k:KA}:zeroV ⟨s,true,b,z,k⟩ = .agg z:=(Eq.refl _).trans rfl
theorem Yu3 {s b:Nat} {c:ae} {z:List ae} {k:KA}:zeroV ⟨s,false,b,c :: z,k⟩=c:=(Eq.refl _).trans rfl
def N9 (t u:TypeId) (x:ae) (ok:Bool) (l:eI):KA→Option ae
 | .iface=>none
 | _=>if t=u then some (if ok then .dy [x, .bool true] else x) else if ok then some (.dy [zeroV l, .bool false]) else none
theorem Yjb {P:Program} {u t:TypeId} {ok:Bool}:iW P (.iface t x) u ok=(bJ P u).bind fun T=>N9 t u x ok T.lay T.kind:=by
 simp only [iW]
 cases bJ P u with
 | none=>rfl
 | some T=>simp only [ew,N9];cases T.kind<;>rfl
def N1 (k:ae) (ok:Bool) (l:eI):Option bE→Option ae
 | some (.map ks vs _)=>if ks.all (sameKind k) then some (eQ ks vs (zeroV l) k ok) else none
 | _=>none
theorem Yto {l0:eI} {k:ae} {ok:Bool} {σ:ai}:ll σ ⟨⟨sz,ag,bs,z, .map⟩,fl,some l0,kt⟩ .cy k ok=if nc ⟨⟨sz,ag,bs,z, .map⟩,fl,some l0,kt⟩ k=true then some (eQ [] [] (zeroV l0) k ok) else none:=(Eq.refl _).trans rfl
theorem Yz7 {l0:eI} {k:ae} {ok:Bool} {σ:ai} {ks vs:List ae}:ll σ ⟨⟨sz,ag,bs,z, .map⟩,fl,some l0,kt⟩ (.pm ks vs) k ok=if nc ⟨⟨sz,ag,bs,z, .map⟩,fl,some l0,kt⟩ k=true then (if ks.all (sameKind k)=true then some (eQ ks vs (zeroV l0) k ok) else none) else none:=(Eq.refl _).trans rfl
theorem Ytx {l0:eI} {k:ae} {ok:Bool} {σ:ai} {b:Nat}:ll σ ⟨⟨sz,ag,bs,z, .map⟩,fl,some l0,kt⟩ (.map b) k ok=if nc ⟨⟨sz,ag,bs,z, .map⟩,fl,some l0,kt⟩ k=true then N1 k ok l0 (bF σ b) else none:=by
 simp only [ll,N1,jH.kind]
 split
 ·cases bF σ b with | none=>rfl | some x=>cases x<;>rfl
 ·rfl
theorem Ymk {k:ae} {ok:Bool} {l:eI} {ks vs:List ae} {f:Bool}:N1 k ok l (some (.map ks vs f))=if ks.all (sameKind k)=true then some (eQ ks vs (zeroV l) k ok) else none:=(Eq.refl _).trans rfl
theorem Yyl {L:eI} {s b:Nat} {a:Bool} {z:List ae} {k k':IntKind} {n:Int}:nc ⟨L,fl,e,some ⟨s,a,b,z, .int k'⟩⟩ (.int k n)=(k==k'):=(Eq.refl _).trans rfl
theorem Yve {L:eI} {s b:Nat} {a:Bool} {z:List ae} {y:ByteArray}:nc ⟨L,fl,e,some ⟨s,a,b,z, .str⟩⟩ (.str y)=true:=(Eq.refl _).trans rfl
theorem Yut {k k':IntKind} {a b:Int}:sameKind (.int k a) (.int k' b)=(k==k'):=(Eq.refl _).trans rfl
theorem Yx4 {a b:ByteArray}:sameKind (.str a) (.str b)=true:=(Eq.refl _).trans rfl
def Jl (σ:ai) (b:Nat) (T:jH) (k v:ae) (l:eI):Option bE→Option ai
 | some (.map ks vs false)=>if nc T k&&ks.all (sameKind k)&&decide (v.cells.length=l.sz) then some (b_ σ b (.map (iM ks vs k v).1 (iM ks vs k v).2 false)) else none
 | _=>none
theorem Yuh {l0:eI} {k v:ae} {σ:ai} {b:Nat}:gk σ ⟨⟨sz,ag,bs,z, .map⟩,fl,some l0,kt⟩ (.map b) k v=Jl σ b ⟨⟨sz,ag,bs,z, .map⟩,fl,some l0,kt⟩ k v l0 (bF σ b):=by
 simp only [gk,Jl,jH.kind]
 rcases bF σ b with _ | x
 ·rfl
 ·cases x<;>rfl
theorem Ymb {σ:ai} {b:Nat} {T:jH} {k v:ae} {l:eI} {ks vs:List ae}:Jl σ b T k v l (some (.map ks vs false))=if nc T k=true∧ks.all (sameKind k)=true∧v.cells.length=l.sz then some (b_ σ b (.map (iM ks vs k v).1 (iM ks vs k v).2 false)) else none:=by
 simp only [Jl,aD,decide_eq_true_eq,and_assoc]
end
section
variable {P:Program} {σ:ai} {nm:Nat} {ρ:Operand→ae} {t:TypeId} {x y z:Operand}
theorem Yvf:cY P σ nm ρ (.move x)=some (ρ x,σ):=(Eq.refl _).trans rfl
theorem Yj8:cY P σ nm ρ (.assign x)=some (ρ x,σ):=(Eq.refl _).trans rfl
theorem Ytf:cY P σ nm ρ (.pick x y z)=(oX (ρ x) (ρ y) (ρ z)).map (·,σ):=(Eq.refl _).trans rfl
theorem Yr5:cY P σ nm ρ (.alloc t)=(aC P t).bind fun l=>some (.ptr nm 0,b_ σ nm (.var l.zero)):=(Eq.refl _).trans rfl
theorem V7:cY P σ nm ρ (.box t x)=(aC P t).bind fun l=>if (ρ x).cells.length=l.sz∧(ρ x).cells.all ae.cI=true then some (.ptr nm 0,b_ σ nm (.var (ρ x).cells)) else none:=(Eq.refl _).trans rfl
theorem Ysf {p:Array (Nat×Operand)}:cY P σ nm ρ (.build t p)=(bJ P t).bind fun T=>(og T ρ p.toList).map (·,σ):=(Eq.refl _).trans rfl
theorem Zst {n:Nat} {p:Array (Nat×Operand)}:cY P σ nm ρ (.buildSlice t n p)=(bJ P t).bind fun T=>T.elem.bind fun e=>(pQ e ρ 0 p.toList).bind fun es =>
   if es.length=n∧T.kind = .slice∧n*e.sz≤16777216∧e.zero.length=e.sz∧0<e.sz then some (.os nm 0 n e.sz,b_ σ nm (.row es 0)) else none:=(Eq.refl _).trans rfl
theorem Yy9:cY P σ nm ρ (.load t x)=(aC P t).bind fun l=>(iT σ l (ρ x)).map (·,σ):=(Eq.refl _).trans rfl
theorem Yq6:cY P σ nm ρ (.store t x y)=(aC P t).bind fun l=>(mg σ l (ρ x) (ρ y)).map (.undef, ·):=(Eq.refl _).trans rfl
def yJ (σ:ai):ae→Option (ae×ai)
 | .ptr b o=>some (.ptr b o,σ)
 | .rp b i f=>some (.rp b i f,σ)
 | .pp cs=>some (.pp cs,σ)
 | .fn f a c=>some (.fn f a c,σ)
 | _=>none
theorem Wf:cY P σ nm ρ (.nilCheck x)=yJ σ (ρ x):=by simp only [cY];cases ρ x<;>rfl
theorem Yv2 {b o:Nat}:yJ σ (.ptr b o)=some (.ptr b o,σ):=(Eq.refl _).trans rfl
theorem Wm {b i f:Nat}:yJ σ (.rp b i f)=some (.rp b i f,σ):=(Eq.refl _).trans rfl
theorem Yzw {cs:List ae}:yJ σ (.pp cs)=some (.pp cs,σ):=(Eq.refl _).trans rfl
theorem Wt {f:FuncId} {a c:List ae}:yJ σ (.fn f a c)=some (.fn f a c,σ):=(Eq.refl _).trans rfl
theorem Ywp {i:Nat}:j3 (.tmp i)=false:=(Eq.refl _).trans rfl
theorem Yx9 {k:IntKind} {n:Int}:j3 (.const (.int k n))=false:=(Eq.refl _).trans rfl
theorem Ys8 {b:Bool}:j3 (.const (.bool b))=false:=(Eq.refl _).trans rfl
theorem Yy4 {s:ByteArray}:j3 (.const (.string s))=false:=(Eq.refl _).trans rfl
theorem YS:j3 (.const (.pointer none))=false:=(Eq.refl _).trans rfl
theorem XG:j3 (.const (.map none))=false:=(Eq.refl _).trans rfl
theorem Ymg:j3 (.const .nilFunc)=false:=(Eq.refl _).trans rfl
theorem Yjq:j3 (.const .nilIface)=false:=(Eq.refl _).trans rfl
theorem Yvr {l:Array Value}:j3 (.const (.agg l))=false:=(Eq.refl _).trans rfl
theorem Ytk {a:Addr}:j3 (.const (.pointer (some a)))=false:=(Eq.refl _).trans rfl
theorem Ymp {t:TypeId} {v:Value}:j3 (.const (.iface t v))=false:=(Eq.refl _).trans rfl
theorem Yqf {g:Nat}:j3 (.global g)=false:=(Eq.refl _).trans rfl
theorem Yox:j3 (.const (.slice none 0 0))=true:=(Eq.refl _).trans rfl
theorem Yzx {op:BinOp} {x y:ae}:xL P op t x y false=qE P op t x y:=(Eq.refl _).trans rfl
theorem Yxt {op:BinOp} {x y:ae}:xL P op t x y true=uA P op t x:=(Eq.refl _).trans rfl
def yK (x:ae) (neg:Bool):Option KA→Option ae
 | some .slice=>rT neg x
 | _=>none
theorem Yts {x:ae}:uA P .eql t x=yK x false (iB P t):=by
 simp only [uA,yK];cases iB P t with | none=>rfl | some k=>cases k<;>rfl
theorem Yww {x:ae}:uA P .neq t x=yK x true (iB P t):=by
 simp only [uA,yK];cases iB P t with | none=>rfl | some k=>cases k<;>rfl
theorem Ym1 {x:ae} {neg:Bool}:yK x neg (some .slice)=rT neg x:=(Eq.refl _).trans rfl
theorem Ypl {neg:Bool}:rT neg .aU=some .gZ:=(Eq.refl _).trans rfl
theorem Yzb {neg:Bool} {s:Nat} {es:List ae}:rT neg (.ps s es)=some (if es.length=0 then .gZ else .bool neg):=(Eq.refl _).trans rfl
theorem Yz6 {neg:Bool} {b o n s:Nat}:rT neg (.os b o n s)=some (if n=0 then .gZ else .bool neg):=(Eq.refl _).trans rfl
theorem V5 {neg:Bool} {b o n c s:Nat}:rT neg (.oc b o n c s)=some (if n=0 then .gZ else .bool neg):=(Eq.refl _).trans rfl
theorem V2 {op:BinOp} {u:TypeId}:cY P σ nm ρ (.binOp op t x y u)=(xL P op t (ρ x) (ρ y) (j3 y)).map (·,σ):=(Eq.refl _).trans rfl
theorem LZ {op:UnOp}:cY P σ nm ρ (.unOp op t x)=(EO op (ρ x)).map (·,σ):=(Eq.refl _).trans rfl
theorem Xt {u:TypeId}:cY P σ nm ρ (.convert t u x)=(oM P t u (ρ x)).map (·,σ):=(Eq.refl _).trans rfl
def mkIf (t:TypeId) (v:ae) (σ:ai):KA→Option (ae×ai)
 | .iface=>none
 | _=>some (.iface t v,σ)
theorem Yr0:cY P σ nm ρ (.makeInterface t x)=(iB P t).bind (mkIf t (ρ x) σ):=by
 simp only [cY];cases iB P t with | none=>rfl | some K=>cases K<;>rfl
theorem Zul {v:ae}:mkIf t v σ .struct=some (.iface t v,σ):=(Eq.refl _).trans rfl
theorem Ylq {v:ae}:mkIf t v σ .ptr=some (.iface t v,σ):=(Eq.refl _).trans rfl
theorem Yk7 {v:ae}:mkIf t v σ .map=some (.iface t v,σ):=(Eq.refl _).trans rfl
theorem Yjt {v:ae}:mkIf t v σ .str=some (.iface t v,σ):=(Eq.refl _).trans rfl
theorem Yja {v:ae} {k:IntKind}:mkIf t v σ (.int k)=some (.iface t v,σ):=(Eq.refl _).trans rfl
theorem Yup {f:FuncId} {a b:Array Operand}:cY P σ nm ρ (.makeFunc (.func f) a b)=some (.fn f (a.toList.map ρ) (b.toList.map ρ),σ):=(Eq.refl _).trans rfl
theorem Yzs:cY P σ nm ρ (.makeMap t none)=some (.map nm,b_ σ nm (.map [] [] false)):=(Eq.refl _).trans rfl
theorem Zt5:cY P σ nm ρ (.makeSlice t x y)=(bJ P t).bind fun T=>jP σ nm T (ρ x) (ρ y):=(Eq.refl _).trans rfl
theorem Yro {a b c:Option Operand}:cY P σ nm ρ (.slice t x a b c)=(bJ P t).bind fun T=>(iN T (ρ x) (a.map ρ) (b.map ρ) (c.map ρ)).map (·,σ):=(Eq.refl _).trans rfl
theorem Zui {i:Nat}:cY P σ nm ρ (.fieldAddr t x i)=(bJ P t).bind fun T=>(jL T (ρ x) i).map (·,σ):=(Eq.refl _).trans rfl
theorem Yrr {i:Nat}:cY P σ nm ρ (.field t x i)=(bJ P t).bind fun T=>(pD T (ρ x) i).map (·,σ):=(Eq.refl _).trans rfl
theorem Ztx:cY P σ nm ρ (.indexAddr t x y)=(bJ P t).bind fun T=>(fg T (ρ x) (ρ y)).map (·,σ):=(Eq.refl _).trans rfl
theorem Yrv:cY P σ nm ρ (.index t x y)=(bJ P t).bind fun T=>(pJ T (ρ x) (ρ y)).map (·,σ):=(Eq.refl _).trans rfl
theorem Ylm {ok:Bool}:cY P σ nm ρ (.lookup t x y ok)=(bJ P t).bind fun T=>(ll σ T (ρ x) (ρ y) ok).map (·,σ):=(Eq.refl _).trans rfl
theorem Ym7:cY P σ nm ρ (.insert t x y z)=(bJ P t).bind fun T=>(gk σ T (ρ x) (ρ y) (ρ z)).map (.undef, ·):=(Eq.refl _).trans rfl
theorem Zuu:cY P σ nm ρ (.mapUpdate t x y z)=(bJ P t).bind fun T=>(gk σ T (ρ x) (ρ y) (ρ z)).map (.undef, ·):=(Eq.refl _).trans rfl
def vP (σ:ai) (nm:Nat):KA→ae→Option (ae×ai)
 | .str, .str s=>some (.it nm,b_ σ nm (.iter s 0))
 | .map, .pm ks vs=>some (.it nm,b_ σ nm (.kZ ks vs []))
 | _,_=>none
theorem Yp9:cY P σ nm ρ (.range t x)=(bJ P t).bind fun T=>vP σ nm T.kind (ρ x):=by
 simp only [cY];cases bJ P t with
 | none=>rfl
 | some T=>simp only [ew];cases T.kind<;>(try rfl)<;>cases ρ x<;>rfl
theorem Zzg {s:ByteArray}:vP σ nm .str (.str s)=some (.it nm,b_ σ nm (.iter s 0)):=(Eq.refl _).trans rfl
theorem YX {ks vs:List ae}:vP σ nm .map (.pm ks vs)=some (.it nm,b_ σ nm (.kZ ks vs [])):=(Eq.refl _).trans rfl
theorem Yqn:cY P σ nm ρ (.entry x)=oo σ (ρ x):=(Eq.refl _).trans rfl
def IZ (σ:ai):Option bE→Option (ae×ai)
 | some (.kZ ks vs seen)=>match seen.getLast? with
  | some i=>some (.dy [ks.getD i .undef,vs.getD i .undef],σ)
  | none=>none
 | _=>none
theorem V9 {b:Nat}:oo σ (.it b)=IZ σ (bF σ b):=by
 simp only [oo,IZ];cases bF σ b with | none=>rfl | some x=>cases x<;>rfl
theorem Yjc {ks vs:List ae} {seen:List Nat} {i:Nat}:IZ σ (some (.kZ ks vs (seen++[i])))=some (.dy [ks.getD i .undef,vs.getD i .undef],σ):=by
 simp [IZ]
theorem Yvb:cY P σ nm ρ (.next x true)=m_ σ (ρ x):=(Eq.refl _).trans rfl
theorem Ykv {u v:TypeId} {ok:Bool}:cY P σ nm ρ (.typeAssert x u v ok)=(iW P (ρ x) v ok).map (·,σ):=(Eq.refl _).trans rfl
def L5 (σ:ai) (i:Nat):ae→Option (ae×ai)
 | .dy vs=>(vs[i]?).map (·,σ)
 | _=>none
theorem Yg {i:Nat}:cY P σ nm ρ (.extract x i)=L5 σ i (ρ x):=by simp only [cY,L5];cases ρ x<;>rfl
theorem Yxa {i:Nat} {vs:List ae}:L5 σ i (.dy vs)=(vs[i]?).map (·,σ):=(Eq.refl _).trans rfl
theorem Zm {b:Builtin} {args:Array Operand} {ts:Array TypeId}:cY P σ nm ρ (.call ⟨.builtin b,args,ts⟩)=e7 P σ nm b ts.toList (args.toList.map ρ):=(Eq.refl _).trans rfl
theorem XB:iB P t=(aC P t).map (·.key):=(Eq.refl _).trans rfl
end
end Go.cV
