/- Part 18 of my own framework and of the walks of functions: AbsS. -/
import Derived.Test.YtfjbdamcmiglgaaGreatOwn17
abbrev fM:=@List.replicate_succ
set_option linter.unusedVariables false
set_option linter.unusedSectionVars false
set_option linter.unusedSimpArgs false
namespace Go.c8
open Go
section
variable {P:Program} {lo:Ctx} {Q:cb→St→Prop} {n:Nat} {k:List KI} {tm:List ae} {σ:ai} {all:Array Oper} {l:List Oper}
theorem XY {e:cb}:dZ P lo Q (n+1) [] e tm σ=Q e ⟨tm,σ⟩:=(Eq.refl _).trans rfl
theorem Yut:dZ P lo Q (n+1) (.code .skip :: k) .normal tm σ=dZ P lo Q n k .normal tm σ:=(Eq.refl _).trans rfl
theorem X0 {a b:Code}:dZ P lo Q (n+1) (.code (.seq a b) :: k) .normal tm σ=dZ P lo Q n (.code a :: .code b :: k) .normal tm σ:=(Eq.refl _).trans rfl
theorem Yvv {c:Operand} {a b:Code}:dZ P lo Q (n+1) (.code (.cond c a b) :: k) .normal tm σ=zq P lo Q n (ev tm c) a b k tm σ:=(Eq.refl _).trans rfl
theorem Yro {id:Nat} {c:Code}:dZ P lo Q (n+1) (.code (.block id c) :: k) .normal tm σ=dZ P lo Q n (.code c :: .cg id :: k) .normal tm σ:=(Eq.refl _).trans rfl
theorem Yk3 {id:Nat} {ops:Array Oper}:dZ P lo Q (n+1) (.code (.region id ops false) :: k) .normal tm σ=dZ P lo Q n (.ops ops ops.toList :: k) .normal tm σ:=(Eq.refl _).trans rfl
theorem Ywd {id:Nat} {ops:Array Oper}:dZ P lo Q (n+1) (.code (.region id ops true) :: k) .normal tm σ=aK P lo Q (.code (.region id ops true) :: k) .normal ⟨tm,σ⟩:=(Eq.refl _).trans rfl
theorem Ywb {id:Nat}:dZ P lo Q (n+1) (.code (.exit id) :: k) .normal tm σ=dZ P lo Q n k (.exit id) tm σ:=(Eq.refl _).trans rfl
theorem XQ:dZ P lo Q (n+1) (.code .ret :: k) .normal tm σ=dZ P lo Q n k .ret tm σ:=(Eq.refl _).trans rfl
theorem Ypd {c:Code}:dZ P lo Q (n+1) (.code (.scope c) :: k) .normal tm σ=dZ P lo Q n (.code c :: .zL :: k) .normal tm σ:=(Eq.refl _).trans rfl
theorem Ysk {i:Nat}:dZ P lo Q (n+1) (.code (.label i) :: k) .normal tm σ=dZ P lo Q n k .normal tm σ:=(Eq.refl _).trans rfl
theorem Yx3 {c:Code}:dZ P lo Q (n+1) (.code (.loop c) :: k) .normal tm σ=aK P lo Q (.code (.loop c) :: k) .normal ⟨tm,σ⟩:=(Eq.refl _).trans rfl
theorem Zw0 {f:Operand} {ps:Array Tmp} {a b:Code}:dZ P lo Q (n+1) (.code (.rangeFunc f ps a b) :: k) .normal tm σ=aK P lo Q (.code (.rangeFunc f ps a b) :: k) .normal ⟨tm,σ⟩:=(Eq.refl _).trans rfl
theorem Yv2 {i:Nat}:dZ P lo Q (n+1) (.code (.goto i) :: k) .normal tm σ=dZ P lo Q n k (.goto i) tm σ:=(Eq.refl _).trans rfl
theorem Zut {c:Code} {i:Nat}:dZ P lo Q (n+1) (.code c :: k) (.exit i) tm σ=dZ P lo Q n k (.exit i) tm σ:=(Eq.refl _).trans rfl
theorem Zus {c:Code} {i:Nat}:dZ P lo Q (n+1) (.code c :: k) (.goto i) tm σ=dZ P lo Q n k (.goto i) tm σ:=(Eq.refl _).trans rfl
theorem Zzy {c:Code}:dZ P lo Q (n+1) (.code c :: k) .ret tm σ=dZ P lo Q n k .ret tm σ:=(Eq.refl _).trans rfl
theorem Ygd:dZ P lo Q (n+1) (.ops all [] :: k) .normal tm σ=dZ P lo Q n k .normal tm σ:=(Eq.refl _).trans rfl
theorem Y3 {o:Oper}:dZ P lo Q (n+1) (.ops all (o :: l) :: k) .normal tm σ=zr P lo Q n (my all tm o) all o l k tm σ:=(Eq.refl _).trans rfl
theorem Zsr {id:Nat}:dZ P lo Q (n+1) (.cg id :: k) .normal tm σ=dZ P lo Q n k .normal tm σ:=(Eq.refl _).trans rfl
theorem Yfa {id:Nat}:dZ P lo Q (n+1) (.cg id :: k) .ret tm σ=dZ P lo Q n k .ret tm σ:=(Eq.refl _).trans rfl
theorem Zzn {id i:Nat}:dZ P lo Q (n+1) (.cg id :: k) (.goto i) tm σ=dZ P lo Q n k (.goto i) tm σ:=(Eq.refl _).trans rfl
theorem Yt {id i:Nat}:dZ P lo Q (n+1) (.cg id :: k) (.exit i) tm σ=(if i=id then dZ P lo Q n k .normal tm σ else dZ P lo Q n k (.exit i) tm σ):=(Eq.refl _).trans rfl
theorem Zqt:dZ P lo Q (n+1) (.zL :: k) .normal tm σ=dZ P lo Q n k .normal tm σ:=(Eq.refl _).trans rfl
theorem Yfr:dZ P lo Q (n+1) (.zL :: k) .ret tm σ=dZ P lo Q n k .ret tm σ:=(Eq.refl _).trans rfl
theorem Y2 {i:Nat}:dZ P lo Q (n+1) (.zL :: k) (.exit i) tm σ=dZ P lo Q n k (.exit i) tm σ:=(Eq.refl _).trans rfl
theorem Yvk {a b:Code}:zq P lo Q (n+1) (.bool true) a b k tm σ=dZ P lo Q n (.code a :: k) .normal tm σ:=by simp [zq]
theorem Yr4 {a b:Code}:zq P lo Q (n+1) (.bool false) a b k tm σ=dZ P lo Q n (.code b :: k) .normal tm σ:=by simp [zq]
theorem XK {a b:Code}:zq P lo Q (n+1) .ig a b k tm σ=(dZ P lo Q n (.code a :: k) .normal tm σ∧dZ P lo Q n (.code b :: k) .normal tm σ):=(Eq.refl _).trans rfl
theorem Yy8 {t:Bool} {a b:Code}:zq P lo Q (n+1) (.bool t) a b k tm σ=((t=true→dZ P lo Q n (.code a :: k) .normal tm σ)∧(t=false→dZ P lo Q n (.code b :: k) .normal tm σ)):=(Eq.refl _).trans rfl
theorem Yys {o:Oper}:zr P lo Q (n+1) (some true) all o l k tm σ=mK P lo Q n o all l k tm σ:=by simp [zr]
theorem Yt8 {o:Oper}:zr P lo Q (n+1) (some false) all o l k tm σ=dZ P lo Q n (.ops all l :: k) .normal (put tm o.dst gone) σ:=by simp [zr]
theorem Yuy {o:Oper} {g:Bool}:zr P lo Q (n+1) (some g) all o l k tm σ=((g=true→mK P lo Q n o all l k tm σ)∧(g=false→dZ P lo Q n (.ops all l :: k) .normal (put tm o.dst gone) σ)):=(Eq.refl _).trans rfl
def ug (P:Program) (lo:Ctx) (Q:cb→St→Prop) (b:Bool) (d:Option Tmp) (f:ae) (args:List ae) (all:Array Oper) (l:List Oper) (k:List KI) (tm:List ae) (σ:ai):Prop :=
 if b=true then sL P f args σ (fun r σ'=>aK P lo Q (.ops all l :: k) .normal ⟨put tm d r,σ'⟩) (fun u σ'=>aK P lo Q k (.panic u) ⟨tm,σ'⟩)
 else aq P f args σ fun r σ'=>aK P lo Q (.ops all l :: k) .normal ⟨put tm d r,σ'⟩
theorem Ywt {d:Option Tmp} {f:Operand} {args:Array Operand} {ts:Array TypeId} {t:TypeId} {p:String} {a:Array Edge} {g:Option (Nat×Bool)} :
  mK P lo Q (n+1) ⟨d, .call ⟨.value f,args,ts⟩,t,p,a,g⟩ all l k tm σ=ug P lo Q (j3 k) d (ev tm f) (args.toList.map (ev tm)) all l k tm σ:=(Eq.refl _).trans rfl
theorem Xx {d:Option Tmp} {f:ae} {args:List ae}:ug P lo Q false d f args all l k tm σ=aq P f args σ fun r σ'=>aK P lo Q (.ops all l :: k) .normal ⟨put tm d r,σ'⟩:=by simp [ug]
theorem Yy6 {d:Option Tmp} {f:ae} {args:List ae}:ug P lo Q true d f args all l k tm σ=sL P f args σ (fun r σ'=>aK P lo Q (.ops all l :: k) .normal ⟨put tm d r,σ'⟩) (fun u σ'=>aK P lo Q k (.panic u) ⟨tm,σ'⟩):=by simp [ug]
theorem Yxr:j3 []=false:=(Eq.refl _).trans rfl
theorem Yym:j3 (.B8 :: k)=true:=(Eq.refl _).trans rfl
theorem Yrh {c:Code}:j3 (.code c :: k)=j3 k:=(Eq.refl _).trans rfl
theorem Yzh {l:List Oper}:j3 (.ops all l :: k)=j3 k:=(Eq.refl _).trans rfl
theorem Yzx {i:Nat}:j3 (.cg i :: k)=j3 k:=(Eq.refl _).trans rfl
theorem Yx0:j3 (.zL :: k)=j3 k:=(Eq.refl _).trans rfl
theorem Ywp {t:TypeId} {cs:List ae}:y4 (.iface t (.agg cs))=(kI cs).map fun l=>.iface t (.agg l.toArray):=(Eq.refl _).trans rfl
theorem Yxp {t:TypeId} {i:IntKind} {m:Int}:y4 (.iface t (.int i m))=some (.iface t (.int i m)):=(Eq.refl _).trans rfl
theorem Yue:kI []=some []:=(Eq.refl _).trans rfl
theorem Yru {i:IntKind} {m:Int} {r:List ae}:kI (.int i m :: r)=(kI r).map (.int i m :: ·):=(Eq.refl _).trans rfl
theorem W9 {u:Value} {s:St}:aK P lo Q [] (.panic u) s=Q (.panic u) s:=(Eq.refl _).trans rfl
theorem Ysg {c:Code} {u:Value} {s:St}:aK P lo Q (.code c :: k) (.panic u) s=aK P lo Q k (.panic u) s:=(Eq.refl _).trans rfl
theorem Ywx {u:Value} {s:St}:aK P lo Q (.ops all l :: k) (.panic u) s=aK P lo Q k (.panic u) s:=(Eq.refl _).trans rfl
theorem Ywh {i:Nat} {u:Value} {s:St}:aK P lo Q (.cg i :: k) (.panic u) s=aK P lo Q k (.panic u) s:=(Eq.refl _).trans rfl
theorem Yx6 {u:Value} {s:St}:aK P lo Q (.B8 :: k) (.panic u) s=aK P lo Q k (.panic u) s:=(Eq.refl _).trans rfl
theorem XH {e:cb}:dZ P lo Q (n+1) (.B8 :: k) e tm σ=dZ P lo Q n k e tm σ:=by cases e<;>simp only [dZ]
end
def Oj:Op→Bool
 | .call ⟨.value _,_,_⟩=>true
 | .panic _=>true
 | .next _ false=>true
 | _=>false
section
variable {P:Program} {lo:Ctx} {Q:cb→St→Prop} {n:Nat} {k:List KI} {tm:List ae} {σ:ai} {all:Array Oper} {l:List Oper}
theorem Ywo {r:ae} {σ':ai} {dst:Option Tmp}:l8 P lo Q (n+1) (some (r,σ')) dst all l k tm=dZ P lo Q n (.ops all l :: k) .normal (put tm dst r) σ':=(Eq.refl _).trans rfl
theorem JZ {dst:Option Tmp}:l8 P lo Q n none dst all l k tm=False:=by cases n<;>rfl
theorem JT {c:Prop} [Decidable c] {x:Option (ae×ai)} {dst:Option Tmp}:l8 P lo Q n (if c then x else none) dst all l k tm=(c∧l8 P lo Q n x dst all l k tm):=by
 by_cases h:c<;>simp [h,JZ]
theorem XU {c:Prop} [Decidable c] {x:c→Option (ae×ai)} {dst:Option Tmp}:l8 P lo Q n (if h:c then x h else none) dst all l k tm = ∃ h:c,l8 P lo Q n (x h) dst all l k tm:=by
 by_cases h:c<;>simp [h,JZ]
theorem Zuj {α β:Type} {c:Prop} [Decidable c] {x:Option α} {f : α→Option β}:(if c then x else none).bind f=if c then x.bind f else none:=by split<;>rfl
theorem YN {α β:Type} {c:Prop} [Decidable c] {x:Option α} {f : α→β}:(if c then x else none).map f=if c then x.map f else none:=by split<;>rfl
theorem Zth {α β:Type} {c:Prop} [Decidable c] {x:c→Option α} {f : α→Option β}:(if h:c then x h else none).bind f=if h:c then (x h).bind f else none:=by split<;>rfl
theorem Zv9 {α β:Type} {c:Prop} [Decidable c] {x:c→Option α} {f : α→β}:(if h:c then x h else none).map f=if h:c then (x h).map f else none:=by split<;>rfl
theorem Ynl {tm:List ae} {d:Option Tmp} {op:Op} {t:TypeId} {p:String} {a:Array Edge}:my all tm ⟨d,op,t,p,a,none⟩=some true:=(Eq.refl _).trans rfl
def CS (want:Bool):Option ae→Option Bool
 | some (.bool b)=>some (b==want)
 | some (.nX v)=>if wF v then none else some false
 | _=>none
def MB (tm:List ae) (want:Bool):Option Tmp→Option Bool
 | some d=>CS want (tm[d]?)
 | none=>none
theorem Yki {tm:List ae} {d:Option Tmp} {op:Op} {t:TypeId} {p:String} {a:Array Edge} {j:Nat} {want:Bool}:my all tm ⟨d,op,t,p,a,some (j,want)⟩=MB tm want ((all.toList[j]?).bind (·.dst)):=by
 simp only [my,MB,gy]
 cases (all[j]?.bind (·.dst)) with
 | none=>rfl
 | some d =>
  simp only [CS]
  cases tm[d]? with
  | none=>rfl
  | some v=>cases v<;>rfl
theorem Yj3 {d:Tmp} {want:Bool}:MB tm want (some d)=CS want (tm[d]?):=(Eq.refl _).trans rfl
theorem Yl7 {want:Bool}:CS want (some gone)=some false:=rfl
theorem Ynz {b want:Bool}:CS want (some (.bool b))=some (b==want):=(Eq.refl _).trans rfl
theorem Xa {t:Tmp}:ev tm (.tmp t)=tm.getD t .undef:=(Eq.refl _).trans rfl
theorem Yo1 {v:Value}:ev tm (.const v)=ofValue v:=(Eq.refl _).trans rfl
theorem Yfu {g:Nat}:ev tm (.global g) = .nX (.pointer (some ⟨g,0,none⟩)):=(Eq.refl _).trans rfl
theorem Yrt {f:FuncId}:ev tm (.func f) = .fn f [] []:=(Eq.refl _).trans rfl
theorem Yu0 {b:Bool}:ofValue (.bool b) = .bool b:=(Eq.refl _).trans rfl
theorem Yx2 {k:IntKind} {n:Int}:ofValue (.int k n) = .int k n:=(Eq.refl _).trans rfl
theorem Yv9 {s:ByteArray}:ofValue (.string s) = .str s:=(Eq.refl _).trans rfl
theorem Yhf:ofValue (.pointer none) = .bN:=(Eq.refl _).trans rfl
theorem Ysf:ofValue (.slice none 0 0) = .aU:=(Eq.refl _).trans rfl
theorem Yg2:ofValue (.map none) = .cC:=(Eq.refl _).trans rfl
theorem Yit:ofValue .nilFunc = .az:=(Eq.refl _).trans rfl
theorem Yk6:ofValue .nilIface = .fR:=(Eq.refl _).trans rfl
theorem Yo0 {d:Tmp} {v:ae}:put tm (some d) v=tm.set d v:=(Eq.refl _).trans rfl
theorem Yo2 {v:ae}:put tm none v=tm:=(Eq.refl _).trans rfl
theorem Ygi {cs:List ae}:(ae.agg cs).cells=cs:=(Eq.refl _).trans rfl
theorem Tc {k:IntKind} {n:Int}:(ae.int k n).cells=[.int k n]:=(Eq.refl _).trans rfl
theorem X_ {b:Bool}:(ae.bool b).cells=[.bool b]:=(Eq.refl _).trans rfl
theorem ZU {b:ByteArray}:(ae.str b).cells=[.str b]:=(Eq.refl _).trans rfl
theorem Zt6:ae.bN.cells=[.bN]:=(Eq.refl _).trans rfl
theorem ZC {b o:Nat}:(ae.ptr b o).cells=[.ptr b o]:=(Eq.refl _).trans rfl
theorem Yjp {b i f:Nat}:(ae.rp b i f).cells=[.rp b i f]:=(Eq.refl _).trans rfl
theorem Yko {cs:List ae}:(ae.pp cs).cells=[.pp cs]:=(Eq.refl _).trans rfl
theorem Y1:ae.aU.cells=[.aU]:=(Eq.refl _).trans rfl
theorem Ymp {sz:Nat} {es:List ae}:(ae.ps sz es).cells=[.ps sz es]:=(Eq.refl _).trans rfl
theorem Ylh {b o m s:Nat}:(ae.os b o m s).cells=[.os b o m s]:=(Eq.refl _).trans rfl
theorem Yjh {b o m c s:Nat}:(ae.oc b o m c s).cells=[.oc b o m c s]:=(Eq.refl _).trans rfl
theorem Zur:ae.az.cells=[.az]:=(Eq.refl _).trans rfl
theorem Yky {f:FuncId} {x y:List ae}:(ae.fn f x y).cells=[.fn f x y]:=(Eq.refl _).trans rfl
theorem Yga {b:Nat}:(ae.lz b).cells=[.lz b]:=(Eq.refl _).trans rfl
theorem Zq7:ae.cC.cells=[.cC]:=(Eq.refl _).trans rfl
theorem Zl {b:Nat}:(ae.map b).cells=[.map b]:=(Eq.refl _).trans rfl
theorem Yo6 {x y:List ae}:(ae.pm x y).cells=[.pm x y]:=(Eq.refl _).trans rfl
theorem Zvj:ae.fR.cells=[.fR]:=(Eq.refl _).trans rfl
theorem Zv0 {t:TypeId} {v:ae}:(ae.iface t v).cells=[.iface t v]:=(Eq.refl _).trans rfl
theorem Zuo:ae.undef.cells=[.undef]:=(Eq.refl _).trans rfl
theorem Yms {k:IntKind} {n:Int}:(ae.int k n).cK=true:=(Eq.refl _).trans rfl
theorem Yg7 {b:Bool}:(ae.bool b).cK=true:=(Eq.refl _).trans rfl
theorem Yj7 {b:ByteArray}:(ae.str b).cK=true:=(Eq.refl _).trans rfl
theorem Zv4:ae.bN.cK=true:=(Eq.refl _).trans rfl
theorem Ykg {b o:Nat}:(ae.ptr b o).cK=true:=(Eq.refl _).trans rfl
theorem Ytl {b i f:Nat}:(ae.rp b i f).cK=true:=(Eq.refl _).trans rfl
theorem Yu3 {cs:List ae}:(ae.pp cs).cK=true:=(Eq.refl _).trans rfl
theorem Yh9:ae.aU.cK=true:=(Eq.refl _).trans rfl
theorem Yrr {sz:Nat} {es:List ae}:(ae.ps sz es).cK=true:=(Eq.refl _).trans rfl
theorem Ysp {b o m s:Nat}:(ae.os b o m s).cK=true:=(Eq.refl _).trans rfl
theorem Yqv {b o m c s:Nat}:(ae.oc b o m c s).cK=true:=(Eq.refl _).trans rfl
theorem Zzh:ae.az.cK=true:=(Eq.refl _).trans rfl
theorem Ypm {f:FuncId} {x y:List ae}:(ae.fn f x y).cK=true:=(Eq.refl _).trans rfl
theorem Yn2 {b:Nat}:(ae.lz b).cK=true:=(Eq.refl _).trans rfl
theorem Zw6:ae.cC.cK=true:=(Eq.refl _).trans rfl
theorem Ylb {b:Nat}:(ae.map b).cK=true:=(Eq.refl _).trans rfl
theorem Yq4 {x y:List ae}:(ae.pm x y).cK=true:=(Eq.refl _).trans rfl
theorem YX:ae.fR.cK=true:=(Eq.refl _).trans rfl
theorem Yb {t:TypeId} {v:ae}:(ae.iface t v).cK=true:=(Eq.refl _).trans rfl
theorem Yqm {cs:List ae}:cN (.agg cs)=true:=(Eq.refl _).trans rfl
theorem Yr2 {k:IntKind} {n:Int}:cN (.int k n)=false:=(Eq.refl _).trans rfl
theorem Yj8 {b:Bool}:cN (.bool b)=false:=(Eq.refl _).trans rfl
theorem Yrf {b:ByteArray}:cN (.str b)=false:=(Eq.refl _).trans rfl
theorem Yxu {sz:Nat} {es:List ae}:cN (.ps sz es)=false:=(Eq.refl _).trans rfl
theorem Yuj {b o m s:Nat}:cN (.os b o m s)=false:=(Eq.refl _).trans rfl
theorem Yxt {b o m c s:Nat}:cN (.oc b o m c s)=false:=(Eq.refl _).trans rfl
theorem Ymn:cN .aU=false:=(Eq.refl _).trans rfl
theorem Ytf {b o:Nat}:cN (.ptr b o)=false:=(Eq.refl _).trans rfl
theorem Z0 {t:TypeId} {v:ae}:cN (.iface t v)=false:=(Eq.refl _).trans rfl
theorem Ynt {b:Nat}:bH [] b=none:=by simp [bH]
theorem Yh2 {x:Option bE} {σ:ai}:bH (x :: σ) 0=x:=by simp [bH]
theorem Za {x:Option bE} {σ:ai} {b:Nat}:bH (x :: σ) (b+1)=bH σ b:=by simp [bH]
theorem Zq4 {y:bE}:b_ [] 0 y=[some y]:=(Eq.refl _).trans rfl
theorem Zpi {b:Nat} {y:bE}:b_ [] (b+1) y=none :: b_ [] b y:=by simp [b_,fM]
theorem Yhd {x:Option bE} {σ:ai} {y:bE}:b_ (x :: σ) 0 y=some y :: σ:=by simp [b_]
theorem Zw {x:Option bE} {σ:ai} {b:Nat} {y:bE}:b_ (x :: σ) (b+1) y=x :: b_ σ b y:=by
 simp only [b_,ax,Nat.add_lt_add_iff_right]
 split
 ·simp
 ·simp
def yT (l:eM) (off:Nat):Option bE→Option ae
 | some (.var cs)=>jQ l (cs.drop off)
 | _=>none
def tf (l:eM) (i f:Nat):Option bE→Option ae
 | some (.row es _)=>if i<es.length then jQ l ((es.getD i .undef).cells.drop f) else none
 | _=>none
theorem Ykb {l:eM} {b off:Nat}:jf σ l (.ptr b off)=yT l off (bH σ b):=by
 simp only [jf,yT];cases bH σ b with | none=>rfl | some x=>cases x<;>rfl
theorem Ypp {l:eM} {b i f:Nat}:jf σ l (.rp b i f)=tf l i f (bH σ b):=by
 simp only [jf,tf];cases bH σ b with | none=>rfl | some x=>cases x<;>rfl
theorem Yr3 {l:eM} {cs:List ae}:jf σ l (.pp cs)=jQ l cs:=(Eq.refl _).trans rfl
theorem Ygm {l:eM} {off:Nat} {cs:List ae}:yT l off (some (.var cs))=jQ l (cs.drop off):=(Eq.refl _).trans rfl
theorem Zw3 {l:eM} {i f fz:Nat} {es:List ae}:tf l i f (some (.row es fz))=if i<es.length then jQ l ((es.getD i .undef).cells.drop f) else none:=(Eq.refl _).trans rfl
theorem Yj0 {sz b:Nat} {z:List ae} {key:KA} {cs:List ae}:jQ ⟨sz,true,b,z,key⟩ cs=if sz≤cs.length then some (.agg (cs.take sz)) else none:=(Eq.refl _).trans rfl
theorem Yn5 {sz b:Nat} {z:List ae} {key:KA} {c:ae} {cs:List ae}:jQ ⟨sz,false,b,z,key⟩ (c :: cs)=some c:=(Eq.refl _).trans rfl
def v7 (sz off:Nat) (v:ae) (σ:ai) (b:Nat):Option bE→Option ai
 | some (.var cs)=>if off+sz≤cs.length then some (b_ σ b (.var (cw cs off v.cells))) else none
 | _=>none
def rD (sz i f:Nat) (v:ae) (σ:ai) (b:Nat):Option bE→Option ai
 | some (.row es fz)=>if fz≤i∧i<es.length∧f+sz≤(es.getD i .undef).cells.length∧0<sz then
   some (b_ σ b (.row (es.set i (jx (cN (es.getD i .undef)) (cw (es.getD i .undef).cells f v.cells))) fz)) else none
 | _=>none
theorem Ygw {l:eM} {b off:Nat} {v:ae}:mD σ l (.ptr b off) v=if v.cells.length=l.sz∧v.cells.all ae.cK=true then v7 l.sz off v σ b (bH σ b) else none:=by
 simp only [mD,v7];split
 ·cases bH σ b with | none=>rfl | some x=>cases x<;>rfl
 ·rfl
theorem Yj2 {l:eM} {b i f:Nat} {v:ae}:mD σ l (.rp b i f) v=if v.cells.length=l.sz∧v.cells.all ae.cK=true then rD l.sz i f v σ b (bH σ b) else none:=by
 simp only [mD,rD];split
 ·cases bH σ b with | none=>rfl | some x=>cases x<;>rfl
 ·rfl
theorem Zzp {sz off b:Nat} {v:ae} {cs:List ae}:v7 sz off v σ b (some (.var cs))=if off+sz≤cs.length then some (b_ σ b (.var (cw cs off v.cells))) else none:=(Eq.refl _).trans rfl
theorem Zro {sz i f b fz:Nat} {v:ae} {es:List ae}:rD sz i f v σ b (some (.row es fz))=if fz≤i∧i<es.length∧f+sz≤(es.getD i .undef).cells.length∧0<sz then
   some (b_ σ b (.row (es.set i (jx (cN (es.getD i .undef)) (cw (es.getD i .undef).cells f v.cells))) fz)) else none:=(Eq.refl _).trans rfl
theorem Zvf {cs:List ae} {o:Nat}:cw cs o []=cs:=(Eq.refl _).trans rfl
theorem Zrk {cs vs:List ae} {o:Nat} {v:ae}:cw cs o (v :: vs)=cw (cs.set o v) (o+1) vs:=(Eq.refl _).trans rfl
theorem Yx {cs:List ae}:jx true cs = .agg cs:=(Eq.refl _).trans rfl
theorem Yi {c:ae} {cs:List ae}:jx false (c :: cs)=c:=(Eq.refl _).trans rfl
end
def um:ae→Nat→Option ae
 | .ptr b o,off=>some (.ptr b (o+off))
 | .rp b i f,off=>some (.rp b i (f+off))
 | .pp cs,off=>some (.pp (cs.drop off))
 | _,_=>none
def Mz (x:ae):Option (Nat×Option eM)→Option ae
 | some (off,some l)=>if l.sz≠0 then um x off else none
 | _=>none
section
variable {sz bs:Nat} {ag:Bool} {z:List ae} {fl:List (Nat×Option eM)} {e kt:Option eM} {x y:ae} {i:Nat}
theorem Zq2:jZ ⟨⟨sz,ag,bs,z, .struct⟩,fl,e,kt⟩ x i=Mz x fl[i]?:=by
 simp only [jZ,jV.kind]
 rcases fl[i]? with _ | ⟨off,_ | l⟩
 ·rfl
 ·rfl
 ·simp only [Mz];cases x<;>rfl
theorem Ylx {off:Nat} {l:eM}:Mz x (some (off,some l))=if l.sz≠0 then um x off else none:=(Eq.refl _).trans rfl
theorem Zx {b o off:Nat}:um (.ptr b o) off=some (.ptr b (o+off)):=(Eq.refl _).trans rfl
theorem Yix {b i f off:Nat}:um (.rp b i f) off=some (.rp b i (f+off)):=(Eq.refl _).trans rfl
theorem Ylq {cs:List ae} {off:Nat}:um (.pp cs) off=some (.pp (cs.drop off)):=(Eq.refl _).trans rfl
def Gh (cs:List ae):Option (Nat×Option eM)→Option ae
 | some (off,some l)=>jQ l (cs.drop off)
 | _=>none
theorem Z3 {cs:List ae}:pL ⟨⟨sz,ag,bs,z, .struct⟩,fl,e,kt⟩ (.agg cs) i=Gh cs fl[i]?:=by
 simp only [pL,jV.kind]
 rcases fl[i]? with _ | ⟨off,_ | l⟩<;>rfl
theorem Ygp {cs:List ae} {off:Nat} {l:eM}:Gh cs (some (off,some l))=jQ l (cs.drop off):=(Eq.refl _).trans rfl
theorem Xz {l:eM} {b off n s:Nat} {k:IntKind} {i:Int}:fB ⟨⟨sz,ag,bs,z, .slice⟩,fl,some l,kt⟩ (.os b off n s) (.int k i)=if l.sz=s∧0≤i∧i<n then some (.rp b (off+i.toNat) 0) else none:=by
 simp [fB,jV.kind,jV.uX]
theorem XI {l:eM} {b off n c s:Nat} {k:IntKind} {i:Int}:fB ⟨⟨sz,ag,bs,z, .slice⟩,fl,some l,kt⟩ (.oc b off n c s) (.int k i)=if l.sz=s∧0≤i∧i<n then some (.rp b (off+i.toNat) 0) else none:=by
 simp [fB,jV.kind,jV.uX]
theorem Xq {l:eM} {s:Nat} {es:List ae} {k:IntKind} {i:Int}:fB ⟨⟨sz,ag,bs,z, .slice⟩,fl,some l,kt⟩ (.ps s es) (.int k i)=if l.sz=s∧0≤i∧i<es.length then some (.pp (es.getD i.toNat .undef).cells) else none:=by
 simp [fB,jV.kind,jV.uX]
theorem Yw8 {l:eM} {b off m:Nat} {k:IntKind} {i:Int}:fB ⟨⟨sz,ag,bs,z, .array m⟩,fl,some l,kt⟩ (.ptr b off) (.int k i)=if 0≤i∧i<m then some (.ptr b (off+i.toNat*l.sz)) else none:=(Eq.refl _).trans rfl
theorem Yw4 {l:eM} {cs:List ae} {m:Nat} {k:IntKind} {i:Int}:pR ⟨⟨sz,ag,bs,z, .array m⟩,fl,some l,kt⟩ (.agg cs) (.int k i)=if 0≤i∧i<m then jQ l (cs.drop (i.toNat*l.sz)) else none:=(Eq.refl _).trans rfl
theorem Yzi {s:ByteArray} {k:IntKind} {i:Int}:pR ⟨⟨sz,ag,bs,z, .str⟩,fl,e,kt⟩ (.str s) (.int k i)=if h : 0≤i∧i.toNat<s.size then some (.int .u8 (s[i.toNat]'h.2).toNat) else none:=by
 by_cases h : 0≤i∧i.toNat<s.size
 ·rw [dif_pos h];exact dif_pos (⟨h,rfl⟩:(0≤i∧i.toNat<s.size)∧KA.str=KA.str)
 ·rw [dif_neg h];exact dif_neg (fun q:(0≤i∧i.toNat<s.size)∧KA.str=KA.str=>h q.1)
def yR (k:KA) (σ:ai) (x:ae):Option (ae×ai) :=
 match k with
 | .array n=>some (.int .i64 n,σ)
 | .str | .slice | .map=>(nx k σ x).map fun (n:Nat)=>(ae.int .i64 (n:Int),σ)
 | _=>none
theorem Ysu {P:Program} {op:BinOp} {t:TypeId} {k k':IntKind} {a b:Int}:qN P op t (.int k a) (.int k' b)=if k=k' then iJ op k a b else none:=(Eq.refl _).trans rfl
theorem Yqb {P:Program} {op:BinOp} {t:TypeId} {a b:ByteArray}:qN P op t (.str a) (.str b)=mE op a b:=(Eq.refl _).trans rfl
theorem Yis {P:Program} {op:BinOp} {t:TypeId} {a b:Bool}:qN P op t (.bool a) (.bool b)=l6 P op t (.bool a) (.bool b):=(Eq.refl _).trans rfl
theorem Yqp {P:Program} {op:BinOp} {t:TypeId} {a b:List ae}:qN P op t (.agg a) (.agg b)=l6 P op t (.agg a) (.agg b):=(Eq.refl _).trans rfl
theorem Yw {P:Program} {op:BinOp} {t:TypeId} {ks vs:List ae}:qN P op t (.pm ks vs) .cC=l6 P op t (.pm ks vs) .cC:=(Eq.refl _).trans rfl
theorem Zvq {P:Program} {op:BinOp} {t:TypeId} {b:Nat}:qN P op t (.map b) .cC=l6 P op t (.map b) .cC:=(Eq.refl _).trans rfl
theorem Zuz {P:Program} {op:BinOp} {t:TypeId}:qN P op t .cC .cC=l6 P op t .cC .cC:=(Eq.refl _).trans rfl
theorem XM {ks vs:List ae}:lI (.pm ks vs)=some true:=(Eq.refl _).trans rfl
theorem Xd {b:Nat}:lI (.map b)=some true:=(Eq.refl _).trans rfl
theorem Yyo:lI .cC=some false:=(Eq.refl _).trans rfl
theorem Yzj {k:IntKind} {a b:Int}:iJ .add k a b=some (.int k (k.wrap (a+b))):=(Eq.refl _).trans rfl
theorem Yxw {k:IntKind} {a b:Int}:iJ .sub k a b=some (.int k (k.wrap (a - b))):=(Eq.refl _).trans rfl
theorem Yv3 {k:IntKind} {a b:Int}:iJ .mul k a b=some (.int k (k.wrap (a*b))):=(Eq.refl _).trans rfl
theorem Yyn {k:IntKind} {a b:Int}:iJ .quo k a b=if b≠0 then some (.int k (k.wrap (a.tdiv b))) else none:=(Eq.refl _).trans rfl
theorem Ywe {k:IntKind} {a b:Int}:iJ .rem k a b=if b≠0 then some (.int k (a.tmod b)) else none:=(Eq.refl _).trans rfl
theorem Yyc {k:IntKind} {a b:Int}:iJ .eql k a b=some (.bool (decide (a=b))):=(Eq.refl _).trans rfl
theorem Yw6 {k:IntKind} {a b:Int}:iJ .neq k a b=some (.bool (decide (a≠b))):=(Eq.refl _).trans rfl
theorem Yvo {k:IntKind} {a b:Int}:iJ .lss k a b=some (.bool (decide (a<b))):=(Eq.refl _).trans rfl
theorem W_ {k:IntKind} {a b:Int}:iJ .leq k a b=some (.bool (decide (a≤b))):=(Eq.refl _).trans rfl
theorem Ywg {k:IntKind} {a b:Int}:iJ .gtr k a b=some (.bool (decide (b<a))):=(Eq.refl _).trans rfl
theorem Yzg {k:IntKind} {a b:Int}:iJ .geq k a b=some (.bool (decide (b≤a))):=(Eq.refl _).trans rfl
theorem Ypa {P:Program} {t:TypeId}:l6 P .eql t x y=(uk P t x y).map .bool:=(Eq.refl _).trans rfl
theorem Ysw {P:Program} {t:TypeId}:l6 P .neq t x y=(uk P t x y).map fun b=>.bool !b:=(Eq.refl _).trans rfl
def Ay (P:Program) (t:TypeId) (x y:ae):Option KA→Option Bool
 | some .bool=>match x,y with
  | .bool a, .bool b=>some (a==b)
  | _,_=>none
 | some .ptr=>match nI x,nI y with
  | some false,some b=>some (!b)
  | some true,some false=>some false
  | _,_=>none
 | some .map=>match y with
  | .cC=>(lI x).map (!·)
  | _=>none
 | some .iface=>match kM x,kM y with
  | some true,some false | some false,some true=>some false
  | some false,some false=>if qy P t=true then some true else none
  | _,_=>none
 | some .func=>match kb x,kb y with
  | some false,some b=>some (!b)
  | some true,some false=>some false
  | _,_=>none
 | some .struct=>match x,y with
  | .agg xs, .agg ys=>if xs.map sE=ys.map sE∧uj P t (xs.map sE)=true then some (kC xs ys) else none
  | _,_=>none
 | _=>none
theorem Yla {P:Program} {t:TypeId}:uk P t x y=Ay P t x y (iK P t):=by
 unfold uk
 cases iK P t with
 | none=>rfl
 | some K=>cases K<;>(try rfl)<;>(cases x<;>(try rfl)<;>cases y<;>rfl)
theorem Ylt {P:Program} {t:TypeId} {a b:Bool}:Ay P t (.bool a) (.bool b) (some .bool)=some (a==b):=(Eq.refl _).trans rfl
theorem Y6 {P:Program} {t:TypeId} {a b:List ae}:Ay P t (.agg a) (.agg b) (some .struct)=if a.map sE=b.map sE∧uj P t (a.map sE)=true then some (kC a b) else none:=(Eq.refl _).trans rfl
theorem Ytq {P:Program} {t:TypeId}:Ay P t x .cC (some .map)=(lI x).map (!·):=(Eq.refl _).trans rfl
theorem XO {f:FuncId} {a b:List ae}:kb (.fn f a b)=some true:=(Eq.refl _).trans rfl
theorem Xi:kb .az=some false:=(Eq.refl _).trans rfl
theorem Yqf {k:IntKind} {a:Int}:sE (.int k a) = .int k:=(Eq.refl _).trans rfl
theorem PL {a:ByteArray}:sE (.str a) = .str:=(Eq.refl _).trans rfl
theorem Ym0 {a:Bool}:sE (.bool a) = .bool:=(Eq.refl _).trans rfl
theorem Yyg {a b:ByteArray}:mE .add a b=if a.size+b.size≤1000000000 then some (.str (a++b)) else none:=(Eq.refl _).trans rfl
theorem Yzu {a b:ByteArray}:mE .eql a b=some (.bool (a.toList==b.toList)):=(Eq.refl _).trans rfl
theorem Yyl {a b:ByteArray}:mE .neq a b=some (.bool !(a.toList==b.toList)):=(Eq.refl _).trans rfl
theorem Xb {a b:ByteArray}:mE .lss a b=some (.bool (Op.bytesLess a.toList b.toList)):=(Eq.refl _).trans rfl
theorem Yyv {b:Bool}:E4 .not (.bool b)=some (.bool !b):=(Eq.refl _).trans rfl
theorem Ywn {k:IntKind} {a:Int}:E4 .neg (.int k a)=some (.int k (k.wrap (0 - a))):=(Eq.refl _).trans rfl
theorem Ytn {c a b:Bool}:po (.bool c) (.bool a) (.bool b)=some (.bool (if c then a else b)):=(Eq.refl _).trans rfl
theorem Yuq {c:Bool} {k k':IntKind} {a b:Int}:po (.bool c) (.int k a) (.int k' b)=some (if c then .int k a else .int k' b):=(Eq.refl _).trans rfl
variable {σ:ai}
theorem Ys0 {s:ByteArray}:nx .str σ (.str s)=some s.size:=(Eq.refl _).trans rfl
theorem Yww {s:Nat} {es:List ae}:nx .slice σ (.ps s es)=some es.length:=(Eq.refl _).trans rfl
theorem Yk8:nx .slice σ .aU=some 0:=(Eq.refl _).trans rfl
theorem Yxc {b o n s:Nat}:nx .slice σ (.os b o n s)=some n:=(Eq.refl _).trans rfl
theorem Yxn {b o n c s:Nat}:nx .slice σ (.oc b o n c s)=some n:=(Eq.refl _).trans rfl
theorem YK:nx .map σ .cC=some 0:=(Eq.refl _).trans rfl
theorem Yx1 {ks vs:List ae}:nx .map σ (.pm ks vs)=some ks.length:=(Eq.refl _).trans rfl
def DO:Option bE→Option Nat
 | some (.map ks _ _)=>some ks.length
 | _=>none
theorem Ytm {b:Nat}:nx .map σ (.map b)=DO (bH σ b):=by
 simp only [nx,DO];cases bH σ b with | none=>rfl | some x=>cases x<;>rfl
theorem Ygq {ks vs:List ae} {f:Bool}:DO (some (.map ks vs f))=some ks.length:=(Eq.refl _).trans rfl
theorem XG {s sz:Nat} {es:List ae}:eR σ sz (.ps s es)=if s=sz then some es else none:=(Eq.refl _).trans rfl
theorem Yu9 {sz:Nat}:eR σ sz .aU=some []:=(Eq.refl _).trans rfl
def ui (off n:Nat):Option bE→Option (List ae)
 | some (.row es _)=>if off+n≤es.length then some ((es.drop off).take n) else none
 | _=>none
theorem Xn {sz b off n s:Nat}:eR σ sz (.os b off n s)=if s=sz then ui off n (bH σ b) else none:=by
 simp only [eR,ui];split
 ·cases bH σ b with | none=>rfl | some x=>cases x<;>rfl
 ·rfl
theorem XW {sz b off n c s:Nat}:eR σ sz (.oc b off n c s)=if s=sz then ui off n (bH σ b) else none:=by
 simp only [eR,ui];split
 ·cases bH σ b with | none=>rfl | some x=>cases x<;>rfl
 ·rfl
theorem YF {off n fz:Nat} {es:List ae}:ui off n (some (.row es fz))=if off+n≤es.length then some ((es.drop off).take n) else none:=(Eq.refl _).trans rfl
def Gb (k:KA) (σ:ai) (x:ae):Option (ae×ai) :=
 match k with
 | .slice=>(vq x).map fun (n:Nat)=>(ae.int .i64 (n:Int),σ)
 | _=>none
theorem Yzb {P:Program} {nm:Nat} {t:TypeId}:fc P σ nm .len [t] [x]=(bL P t).bind fun T=>yR T.kind σ x:=by
 rfl
theorem Ym4 {m:Nat}:yR (.array m) σ x=some (.int .i64 m,σ):=(Eq.refl _).trans rfl
theorem Ymo:yR .str σ x=(nx .str σ x).map fun (n:Nat)=>(ae.int .i64 (n:Int),σ):=(Eq.refl _).trans rfl
theorem X6:yR .slice σ x=(nx .slice σ x).map fun (n:Nat)=>(ae.int .i64 (n:Int),σ):=(Eq.refl _).trans rfl
theorem Ylr:yR .map σ x=(nx .map σ x).map fun (n:Nat)=>(ae.int .i64 (n:Int),σ):=(Eq.refl _).trans rfl
theorem UD {L:eM}:jV.kind ⟨L,fl,e,kt⟩=L.key:=(Eq.refl _).trans rfl
def wV (σ:ai) (nm:Nat) (e:eM) (s x:ae):KA→Option (ae×ai)
 | .slice=>(eR σ e.sz x).bind fun xs=>ei σ nm e s xs
 | .str=>match x with
  | .str y=>if e.sz=1 then ei σ nm e s (bytesOf y) else none
  | _=>none
 | .int _=>match x with
  | .int .i64 n=>if 0≤n∧n≤1000000000∧IntKind.i64.wrap n=n then ei σ nm e s (List.replicate n.toNat (zeroV e)) else none
  | _=>none
 | _=>none
theorem Yxm {P:Program} {nm:Nat} {t u:TypeId} {s:ae}:fc P σ nm .append [t,u] [s,x]=(bL P t).bind fun T=>(bL P u).bind fun U=>match T.kind,T.elem with
  | .slice,some e=>wV σ nm e s x U.kind
  | _,_=>none:=by
 simp only [fc]
 congr;funext T;congr;funext U
 cases T.kind<;>(try rfl)<;>cases T.elem<;>(try rfl)<;>cases U.kind<;>rfl
def F7 (σ:ai) (nm:Nat) (s x:ae) (U:jV):KA→Option eM→Option (ae×ai)
 | .slice,some e=>wV σ nm e s x U.kind
 | _,_=>none
theorem Yhr {P:Program} {nm:Nat} {t u:TypeId} {s:ae}:fc P σ nm .append [t,u] [s,x]=(bL P t).bind fun T=>(bL P u).bind fun U=>F7 σ nm s x U T.kind T.elem:=by
 rw [Yxm];congr
theorem Yy {nm:Nat} {s:ae} {U:jV} {l:eM}:F7 σ nm s x U .slice (some l)=wV σ nm l s x U.kind:=(Eq.refl _).trans rfl
theorem Zzm {nm:Nat} {l:eM} {s:ae}:wV σ nm l s x .slice=(eR σ l.sz x).bind fun xs=>ei σ nm l s xs:=(Eq.refl _).trans rfl
theorem Yka {nm:Nat} {l:eM} {s:ae} {y:ByteArray}:wV σ nm l s (.str y) .str=if l.sz=1 then ei σ nm l s (bytesOf y) else none:=(Eq.refl _).trans rfl
theorem Ynf {nm:Nat} {l:eM} {s:ae} {k:IntKind} {n:Int}:wV σ nm l s (.int .i64 n) (.int k)=if 0≤n∧n≤1000000000∧IntKind.i64.wrap n=n then ei σ nm l s (List.replicate n.toNat (zeroV l)) else none:=(Eq.refl _).trans rfl
theorem Yyk {P:Program} {nm:Nat} {t:TypeId}:fc P σ nm .cap [t] [x]=(bL P t).bind fun T=>Gb T.kind σ x:=by
 simp only [fc];congr
theorem Zzk:Gb .slice σ x=(vq x).map fun (n:Nat)=>(ae.int .i64 (n:Int),σ):=(Eq.refl _).trans rfl
theorem Yf4:vq .aU=some 0:=(Eq.refl _).trans rfl
theorem Yq9 {b o n c s:Nat}:vq (.oc b o n c s)=some c:=(Eq.refl _).trans rfl
def Gd (σ:ai) (x:ae):KA→Option eM→Option (ae×ai)
 | .slice,some e=>(kF x).bind fun n=>if n=0 then some (.dA [],σ) else (kA σ e.sz x (List.replicate n (zeroV e))).map (.dA [], ·)
 | _,_=>none
theorem Ym9 {P:Program} {nm:Nat} {t:TypeId}:fc P σ nm .clear [t] [x]=(bL P t).bind fun T=>Gd σ x T.kind T.elem:=by
 simp only [fc];congr
theorem Yd {l:eM}:Gd σ x .slice (some l)=(kF x).bind fun n=>if n=0 then some (.dA [],σ) else (kA σ l.sz x (List.replicate n (zeroV l))).map (.dA [], ·):=(Eq.refl _).trans rfl
def Ge (σ:ai) (d x:ae):KA→Option eM→KA→Option (ae×ai)
 | .slice,some e, .slice=>(kF d).bind fun n=>(eR σ e.sz x).bind fun xs=>(kA σ e.sz d (xs.take n)).map (ae.int .i64 ((xs.take n).length:Int), ·)
 | _,_,_=>none
theorem Yqo {P:Program} {nm:Nat} {t u:TypeId} {d:ae}:fc P σ nm .copy [t,u] [d,x]=(bL P t).bind fun T=>(bL P u).bind fun U=>Ge σ d x T.kind T.elem U.kind:=by
 simp only [fc];congr
theorem Ym {l:eM} {d:ae}:Ge σ d x .slice (some l) .slice=(kF d).bind fun n=>(eR σ l.sz x).bind fun xs=>(kA σ l.sz d (xs.take n)).map (ae.int .i64 ((xs.take n).length:Int), ·):=(Eq.refl _).trans rfl
theorem ZZ:kF .aU=some 0:=(Eq.refl _).trans rfl
theorem Yr1 {b o n s:Nat}:kF (.os b o n s)=some n:=(Eq.refl _).trans rfl
theorem Yu4 {b o n c s:Nat}:kF (.oc b o n c s)=some n:=(Eq.refl _).trans rfl
theorem Ypn {s:Nat} {es:List ae}:kF (.ps s es)=some es.length:=(Eq.refl _).trans rfl
def nc (sz:Nat) (xs:List ae):Prop:=∀ x∈xs,x.cells.length=sz∧x.cells.all ae.cK=true
open Classical in
noncomputable def uJ (σ:ai) (sz b off n xm:Nat) (xs:List ae):Option bE→Option ai
 | some (.row es fz)=>if xm=sz∧0<sz∧fz≤off∧xs.length≤n∧off+n≤es.length∧nc sz xs then some (b_ σ b (.row (cw es off xs) fz)) else none
 | _=>none
theorem Td {sz:Nat} {xs:List ae}:xs.all (fun x=>x.cells.length==sz&&x.cells.all ae.cK)=true↔nc sz xs:=by simp [nc]
theorem Xv {sz b off n s:Nat} {xs:List ae}:kA σ sz (.os b off n s) xs=uJ σ sz b off n s xs (bH σ b):=by
 simp only [kA,uJ,← Td];cases bH σ b with | none=>rfl | some x=>cases x<;>rfl
theorem Xm {sz b off n c s:Nat} {xs:List ae}:kA σ sz (.oc b off n c s) xs=uJ σ sz b off n s xs (bH σ b):=by
 simp only [kA,uJ,← Td];cases bH σ b with | none=>rfl | some x=>cases x<;>rfl
open Classical in
theorem Zzv {sz b off n s fz:Nat} {xs es:List ae}:uJ σ sz b off n s xs (some (.row es fz))=if s=sz∧0<sz∧fz≤off∧xs.length≤n∧off+n≤es.length∧nc sz xs then some (b_ σ b (.row (cw es off xs) fz)) else none:=(Eq.refl _).trans rfl
def vo (σ:ai) (nm:Nat) (e:eM) (b off n sz:Nat) (xs:List ae):Option bE→Option (ae×ai)
 | some (.row es fz)=>if sz=e.sz∧fz≤off+n∧off+n≤es.length∧n+xs.length≤cL e.bytes then
         some (.os nm 0 (n+xs.length) sz,b_ (σ.set b none) nm (.row ((es.drop off).take n++xs) (fz - off)))
    else none
 | _=>none
def eQ (e:eM) (xs:List ae):Prop:=(∀ x∈xs,x.cells.length=e.sz∧x.cells.all ae.cK=true)∧0<e.sz∧e.bytes≤65536∧e.zero.length=e.sz
theorem KR {e:eM} {xs:List ae}:(xs.all (fun x=>x.cells.length==e.sz&&x.cells.all ae.cK)=true∧0<e.sz∧e.bytes≤65536∧e.zero.length=e.sz)↔eQ e xs:=by
 simp [eQ]
open Classical in
theorem La {nm:Nat} {l:eM} {xs:List ae}:ei σ nm l .aU xs=if eQ l xs then (if xs.length=0 then some (.aU,σ) else if xs.length≤cL l.bytes then some (.os nm 0 xs.length l.sz,b_ σ nm (.row xs 0)) else none) else none:=by
 unfold ei mn
 simp only [← KR]
open Classical in
theorem JY {nm:Nat} {l:eM} {xs:List ae} {b off n s:Nat}:ei σ nm l (.os b off n s) xs=if eQ l xs then vo σ nm l b off n s xs (bH σ b) else none:=by
 unfold ei mn
 simp only [← KR]
 split
 ·simp only [vo];cases bH σ b with | none=>rfl | some x=>cases x<;>rfl
 ·rfl
theorem Kh {nm:Nat} {l:eM} {b off n s fz:Nat} {xs es:List ae}:vo σ nm l b off n s xs (some (.row es fz))=if s=l.sz∧fz≤off+n∧off+n≤es.length∧n+xs.length≤cL l.bytes then
     some (.os nm 0 (n+xs.length) s,b_ (σ.set b none) nm (.row ((es.drop off).take n++xs) (fz - off))) else none:=(Eq.refl _).trans rfl
def sR (σ:ai) (nm b off n c sz Jl:Nat) (xs:List ae):Option bE→Option (ae×ai)
 | some (.row es fz)=>if off+n≤es.length then
    if n+xs.length≤c then (if fz≤off+n∧off+n+xs.length≤es.length then some (.oc b off (n+xs.length) c sz,b_ σ b (.row (cw es (off+n) xs) fz)) else none)
    else if n+xs.length≤cL Jl then some (.os nm 0 (n+xs.length) sz,b_ σ nm (.row ((es.drop off).take n++xs) 0)) else none
   else none
 | _=>none
open Classical in
theorem Yw9 {nm:Nat} {l:eM} {xs:List ae} {b off n c s:Nat}:ei σ nm l (.oc b off n c s) xs=if eQ l xs∧s=l.sz then sR σ nm b off n c s l.bytes xs (bH σ b) else none:=by
 unfold ei nH
 simp only [← KR]
 by_cases h1:(xs.all (fun x=>x.cells.length==l.sz&&x.cells.all ae.cK)=true∧0<l.sz∧l.bytes≤65536∧l.zero.length=l.sz)
 ·simp only [h1,and_true,true_and,if_true]
  by_cases h2:s=l.sz
  ·simp only [h2,true_and,if_true,sR];cases bH σ b with | none=>rfl | some x=>cases x<;>rfl
  ·simp only [h2,false_and,if_false];cases bH σ b with | none=>rfl | some x=>cases x<;>rfl
 ·rw [if_neg h1,if_neg (fun h=>h1 h.1)]
theorem Zqs {nm b off n c s Jl fz:Nat} {xs es:List ae}:sR σ nm b off n c s Jl xs (some (.row es fz))=if off+n≤es.length then
    if n+xs.length≤c then (if fz≤off+n∧off+n+xs.length≤es.length then some (.oc b off (n+xs.length) c s,b_ σ b (.row (cw es (off+n) xs) fz)) else none)
    else if n+xs.length≤cL Jl then some (.os nm 0 (n+xs.length) s,b_ σ nm (.row ((es.drop off).take n++xs) 0)) else none
   else none:=(Eq.refl _).trans rfl
theorem Yvy {P:Program} {nm:Nat} {ts:List TypeId} {rest:List ae}:fc P σ nm .max ts (x :: rest)=(fO (fun a b=>if a<b then b else a) x rest).map (·,σ):=(Eq.refl _).trans rfl
theorem Yvh {P:Program} {nm:Nat} {ts:List TypeId} {rest:List ae}:fc P σ nm .min ts (x :: rest)=(fO (fun a b=>if b<a then b else a) x rest).map (·,σ):=(Eq.refl _).trans rfl
theorem Yux {f:Int→Int→Int}:fO f x []=some x:=by cases x<;>rfl
theorem Ytg {f:Int→Int→Int} {k k':IntKind} {a b:Int} {rest:List ae}:fO f (.int k a) (.int k' b :: rest)=fO f (.int k (f a b)) rest:=(Eq.refl _).trans rfl
theorem Yyw {s:ByteArray} {lo hi:Option ae}:iX ⟨⟨sz,ag,bs,z, .str⟩,fl,e,kt⟩ (.str s) lo hi none=(w9 s.size hi).bind fun h=>(rq h lo).bind fun l=>some (.str (s.extract l h)):=(Eq.refl _).trans rfl
theorem XZ {l0:eM} {s:Nat} {es:List ae} {lo hi:Option ae}:iX ⟨⟨sz,ag,bs,z, .slice⟩,fl,some l0,kt⟩ (.ps s es) lo hi none=if l0.sz=s then (w9 es.length hi).bind fun h=>(rq h lo).bind fun l=>some (.ps s ((es.drop l).take (h - l))) else none:=by
 simp [iX,jV.kind,jV.uX]
theorem Xl {l0:eM} {b off n s:Nat} {lo hi:Option ae}:iX ⟨⟨sz,ag,bs,z, .slice⟩,fl,some l0,kt⟩ (.os b off n s) lo hi none=if l0.sz=s then (w9 n hi).bind fun h=>(rq h lo).bind fun l=>some (.os b (off+l) (h - l) s) else none:=by
 simp [iX,jV.kind,jV.uX]
theorem Xs {l0:eM} {b off n c s:Nat} {lo hi:Option ae}:iX ⟨⟨sz,ag,bs,z, .slice⟩,fl,some l0,kt⟩ (.oc b off n c s) lo hi none=if l0.sz=s then (Dc n c hi).bind fun h=>(rq h lo).bind fun l=>some (.oc b (off+l) (h - l) (c - l) s) else none:=by
 simp [iX,jV.kind,jV.uX]
theorem Yz9 {l0:eM} {b off n c s:Nat} {lo:Option ae} {k k':IntKind} {hi mx:Int}:iX ⟨⟨sz,ag,bs,z, .slice⟩,fl,some l0,kt⟩ (.oc b off n c s) lo (some (.int k hi)) (some (.int k' mx))=if l0.sz=s then (if (0:Int)≤mx∧mx≤c then (if (0:Int)≤hi∧hi≤mx.toNat then (rq hi.toNat lo).bind fun l=>some (.oc b (off+l) (hi.toNat - l) (mx.toNat - l) s) else none) else none) else none:=by
 have e:∀ (n:Nat) (k:IntKind) (i:Int),jO 0 n (.int k i)=if (0:Int)≤i∧i≤n then some i.toNat else none:=fun n k i=>by simp [jO]
 simp only [iX,jV.kind,jV.uX,bu,true_and,aG]
 by_cases h1:l0.sz=s
 ·rw [if_pos h1,if_pos h1,e]
  by_cases h2:(0:Int)≤mx∧mx≤c
  ·rw [if_pos h2,if_pos h2,eA,eA,e]
   by_cases h3:(0:Int)≤hi∧hi≤mx.toNat
   ·rw [if_pos h3,if_pos h3,eA]
   ·rw [if_neg h3,if_neg h3];rfl
  ·rw [if_neg h2,if_neg h2];rfl
 ·rw [if_neg h1,if_neg h1]
theorem Yjl {n c:Nat}:Dc n c none=some n:=(Eq.refl _).trans rfl
theorem Yjv {n c:Nat} {k:IntKind} {i:Int}:Dc n c (some (.int k i))=if (0:Int)≤i∧i≤c then some i.toNat else none:=by simp [Dc,jO]
theorem Ys3 {l0:eM} {lo hi:Option ae}:iX ⟨⟨sz,ag,bs,z, .slice⟩,fl,some l0,kt⟩ .aU lo hi none=(w9 0 hi).bind fun h=>(rq h lo).bind fun _=>some .aU:=by
 simp [iX,jV.kind]
theorem Yrd {n:Nat}:w9 n none=some n:=(Eq.refl _).trans rfl
theorem Yt0 {n:Nat} {k:IntKind} {i:Int}:w9 n (some (.int k i))=if (0:Int)≤i∧i≤n then some i.toNat else none:=by simp [w9,jO]
theorem Yt3 {n:Nat}:rq n none=some 0:=(Eq.refl _).trans rfl
theorem Ysc {n:Nat} {k:IntKind} {i:Int}:rq n (some (.int k i))=if (0:Int)≤i∧i≤n then some i.toNat else none:=by simp [rq,jO]
theorem Yfj {ρ:Operand→ae} {parts:List (Nat×Operand)}:oD ⟨⟨sz,ag,bs,z, .struct⟩,fl,e,kt⟩ ρ parts=if fl.all (·.2.isSome)=true then (ky fl ρ z parts).map .agg else none:=(Eq.refl _).trans rfl
theorem Yjb {l0:eM} {m:Nat} {ρ:Operand→ae} {parts:List (Nat×Operand)}:oD ⟨⟨sz,ag,bs,z, .array m⟩,fl,some l0,kt⟩ ρ parts=(ky ((List.range m).map fun i=>(i*l0.sz,some l0)) ρ z parts).map .agg:=(Eq.refl _).trans rfl
def yc (o9:List (Nat×Option eM)) (ρ:Operand→ae) (cs:List ae) (v:ae) (rest:List (Nat×Operand)):Option (Nat×Option eM)→Option (List ae)
 | some (off,some l)=>if v.cells.length=l.sz∧off+l.sz≤cs.length∧v.cells.all ae.cK=true then ky o9 ρ (cw cs off v.cells) rest else none
 | _=>none
theorem Ymi {ρ:Operand→ae} {cs:List ae}:ky fl ρ cs []=some cs:=(Eq.refl _).trans rfl
theorem Z4 {ρ:Operand→ae} {cs:List ae} {i:Nat} {o:Operand} {rest:List (Nat×Operand)}:ky fl ρ cs ((i,o) :: rest)=yc fl ρ cs (ρ o) rest fl[i]?:=by
 simp only [ky,yc]
 rcases fl[i]? with _ | ⟨off,_ | l⟩<;>rfl
theorem YG {ρ:Operand→ae} {cs:List ae} {v:ae} {rest:List (Nat×Operand)} {off:Nat} {l:eM}:yc fl ρ cs v rest (some (off,some l))=if v.cells.length=l.sz∧off+l.sz≤cs.length∧v.cells.all ae.cK=true then ky fl ρ (cw cs off v.cells) rest else none:=(Eq.refl _).trans rfl
theorem Ypv {l0:eM} {ρ:Operand→ae} {k:Nat}:pY l0 ρ k []=some []:=(Eq.refl _).trans rfl
theorem Ylj {l0:eM} {ρ:Operand→ae} {k i:Nat} {o:Operand} {rest:List (Nat×Operand)}:pY l0 ρ k ((i,o) :: rest)=if i=k∧(ρ o).cells.length=l0.sz∧cN (ρ o)=l0.ag∧(ρ o).cells.all ae.cK=true then (pY l0 ρ (k+1) rest).map (ρ o :: ·) else none:=(Eq.refl _).trans rfl
theorem Yvf {nm:Nat} {l0:eM} {l c:Int}:j5 σ nm ⟨⟨sz,ag,bs,z, .slice⟩,fl,some l0,kt⟩ (.int .i64 l) (.int .i64 c)=if 0≤l∧l≤c∧c≤1000000000∧l0.bytes≤65536∧0<l0.sz∧l0.zero.length=l0.sz then some (.os nm 0 l.toNat l0.sz,b_ σ nm (.row (List.replicate l.toNat (zeroV l0)) 0)) else none:=(Eq.refl _).trans rfl
theorem Yyr {s b:Nat} {z:List ae} {k:KA}:zeroV ⟨s,true,b,z,k⟩ = .agg z:=(Eq.refl _).trans rfl
theorem Yvb {s b:Nat} {c:ae} {z:List ae} {k:KA}:zeroV ⟨s,false,b,c :: z,k⟩=c:=(Eq.refl _).trans rfl
def OB (t u:TypeId) (x:ae) (ok:Bool) (l:eM):KA→Option ae
 | .iface=>none
 | _=>if t=u then some (if ok then .dA [x, .bool true] else x) else if ok then some (.dA [zeroV l, .bool false]) else none
theorem Ynx {P:Program} {u t:TypeId} {ok:Bool}:jh P (.iface t x) u ok=(bL P u).bind fun T=>OB t u x ok T.lay T.kind:=by
 simp only [jh]
 cases bL P u with
 | none=>rfl
 | some T=>simp only [eA,OB];cases T.kind<;>rfl
def Ot (k:ae) (ok:Bool) (l:eM):Option bE→Option ae
 | some (.map ks vs _)=>if ks.all (sameKind k) then some (eT ks vs (zeroV l) k ok) else none
 | _=>none
theorem Yy9 {l0:eM} {k:ae} {ok:Bool} {σ:ai}:lH σ ⟨⟨sz,ag,bs,z, .map⟩,fl,some l0,kt⟩ .cC k ok=if nw ⟨⟨sz,ag,bs,z, .map⟩,fl,some l0,kt⟩ k=true then some (eT [] [] (zeroV l0) k ok) else none:=(Eq.refl _).trans rfl
theorem Xw {l0:eM} {k:ae} {ok:Bool} {σ:ai} {ks vs:List ae}:lH σ ⟨⟨sz,ag,bs,z, .map⟩,fl,some l0,kt⟩ (.pm ks vs) k ok=if nw ⟨⟨sz,ag,bs,z, .map⟩,fl,some l0,kt⟩ k=true then (if ks.all (sameKind k)=true then some (eT ks vs (zeroV l0) k ok) else none) else none:=(Eq.refl _).trans rfl
theorem Yy3 {l0:eM} {k:ae} {ok:Bool} {σ:ai} {b:Nat}:lH σ ⟨⟨sz,ag,bs,z, .map⟩,fl,some l0,kt⟩ (.map b) k ok=if nw ⟨⟨sz,ag,bs,z, .map⟩,fl,some l0,kt⟩ k=true then Ot k ok l0 (bH σ b) else none:=by
 simp only [lH,Ot,jV.kind]
 split
 ·cases bH σ b with | none=>rfl | some x=>cases x<;>rfl
 ·rfl
theorem Yiw {k:ae} {ok:Bool} {l:eM} {ks vs:List ae} {f:Bool}:Ot k ok l (some (.map ks vs f))=if ks.all (sameKind k)=true then some (eT ks vs (zeroV l) k ok) else none:=(Eq.refl _).trans rfl
theorem Yyf {L:eM} {s b:Nat} {a:Bool} {z:List ae} {k k':IntKind} {n:Int}:nw ⟨L,fl,e,some ⟨s,a,b,z, .int k'⟩⟩ (.int k n)=(k==k'):=(Eq.refl _).trans rfl
theorem Yzr {L:eM} {s b:Nat} {a:Bool} {z:List ae} {y:ByteArray}:nw ⟨L,fl,e,some ⟨s,a,b,z, .str⟩⟩ (.str y)=true:=(Eq.refl _).trans rfl
theorem Yz3 {k k':IntKind} {a b:Int}:sameKind (.int k a) (.int k' b)=(k==k'):=(Eq.refl _).trans rfl
theorem Ywa {a b:ByteArray}:sameKind (.str a) (.str b)=true:=(Eq.refl _).trans rfl
def JN (σ:ai) (b:Nat) (T:jV) (k v:ae) (l:eM):Option bE→Option ai
 | some (.map ks vs false)=>if nw T k&&ks.all (sameKind k)&&decide (v.cells.length=l.sz) then some (b_ σ b (.map (iV ks vs k v).1 (iV ks vs k v).2 false)) else none
 | _=>none
theorem Yzt {l0:eM} {k v:ae} {σ:ai} {b:Nat}:gG σ ⟨⟨sz,ag,bs,z, .map⟩,fl,some l0,kt⟩ (.map b) k v=JN σ b ⟨⟨sz,ag,bs,z, .map⟩,fl,some l0,kt⟩ k v l0 (bH σ b):=by
 simp only [gG,JN,jV.kind]
 rcases bH σ b with _ | x
 ·rfl
 ·cases x<;>rfl
theorem Ylw {σ:ai} {b:Nat} {T:jV} {k v:ae} {l:eM} {ks vs:List ae}:JN σ b T k v l (some (.map ks vs false))=if nw T k=true∧ks.all (sameKind k)=true∧v.cells.length=l.sz then some (b_ σ b (.map (iV ks vs k v).1 (iV ks vs k v).2 false)) else none:=by
 simp only [JN,aC,decide_eq_true_eq,and_assoc]
end
section
variable {P:Program} {σ:ai} {nm:Nat} {ρ:Operand→ae} {t:TypeId} {x y z:Operand}
theorem Yzs:c9 P σ nm ρ (.move x)=some (ρ x,σ):=(Eq.refl _).trans rfl
theorem Yll:c9 P σ nm ρ (.assign x)=some (ρ x,σ):=(Eq.refl _).trans rfl
theorem Yyz:c9 P σ nm ρ (.pick x y z)=(po (ρ x) (ρ y) (ρ z)).map (·,σ):=(Eq.refl _).trans rfl
theorem Ysi:c9 P σ nm ρ (.alloc t)=(aF P t).bind fun l=>some (.ptr nm 0,b_ σ nm (.var l.zero)):=(Eq.refl _).trans rfl
theorem X1:c9 P σ nm ρ (.box t x)=(aF P t).bind fun l=>if (ρ x).cells.length=l.sz∧(ρ x).cells.all ae.cK=true then some (.ptr nm 0,b_ σ nm (.var (ρ x).cells)) else none:=(Eq.refl _).trans rfl
theorem Ys2 {p:Array (Nat×Operand)}:c9 P σ nm ρ (.build t p)=(bL P t).bind fun T=>(oD T ρ p.toList).map (·,σ):=(Eq.refl _).trans rfl
theorem Zqy {n:Nat} {p:Array (Nat×Operand)}:c9 P σ nm ρ (.buildSlice t n p)=(bL P t).bind fun T=>T.elem.bind fun e=>(pY e ρ 0 p.toList).bind fun es =>
   if es.length=n∧T.kind = .slice∧n*e.sz≤16777216∧e.zero.length=e.sz∧0<e.sz then some (.os nm 0 n e.sz,b_ σ nm (.row es 0)) else none:=(Eq.refl _).trans rfl
theorem Yzq:c9 P σ nm ρ (.load t x)=(aF P t).bind fun l=>(jf σ l (ρ x)).map (·,σ):=(Eq.refl _).trans rfl
theorem Yrs:c9 P σ nm ρ (.store t x y)=(aF P t).bind fun l=>(mD σ l (ρ x) (ρ y)).map (.undef, ·):=(Eq.refl _).trans rfl
def yV (σ:ai):ae→Option (ae×ai)
 | .ptr b o=>some (.ptr b o,σ)
 | .rp b i f=>some (.rp b i f,σ)
 | .pp cs=>some (.pp cs,σ)
 | .fn f a c=>some (.fn f a c,σ)
 | _=>none
theorem X2:c9 P σ nm ρ (.nilCheck x)=yV σ (ρ x):=by simp only [c9];cases ρ x<;>rfl
theorem Yw2 {b o:Nat}:yV σ (.ptr b o)=some (.ptr b o,σ):=(Eq.refl _).trans rfl
theorem XV {b i f:Nat}:yV σ (.rp b i f)=some (.rp b i f,σ):=(Eq.refl _).trans rfl
theorem X5 {cs:List ae}:yV σ (.pp cs)=some (.pp cs,σ):=(Eq.refl _).trans rfl
theorem XF {f:FuncId} {a c:List ae}:yV σ (.fn f a c)=some (.fn f a c,σ):=(Eq.refl _).trans rfl
theorem Yvj {i:Nat}:ki (.tmp i)=false:=(Eq.refl _).trans rfl
theorem Yyb {k:IntKind} {n:Int}:ki (.const (.int k n))=false:=(Eq.refl _).trans rfl
theorem Yr6 {b:Bool}:ki (.const (.bool b))=false:=(Eq.refl _).trans rfl
theorem Yy5 {s:ByteArray}:ki (.const (.string s))=false:=(Eq.refl _).trans rfl
theorem Yfl:ki (.const (.pointer none))=false:=(Eq.refl _).trans rfl
theorem Yex:ki (.const (.map none))=false:=(Eq.refl _).trans rfl
theorem Ymy:ki (.const .nilFunc)=false:=(Eq.refl _).trans rfl
theorem Ynj:ki (.const .nilIface)=false:=(Eq.refl _).trans rfl
theorem Yv4 {l:Array Value}:ki (.const (.agg l))=false:=(Eq.refl _).trans rfl
theorem Xg {a:Addr}:ki (.const (.pointer (some a)))=false:=(Eq.refl _).trans rfl
theorem Yk9 {t:TypeId} {v:Value}:ki (.const (.iface t v))=false:=(Eq.refl _).trans rfl
theorem Ytb {g:Nat}:ki (.global g)=false:=(Eq.refl _).trans rfl
theorem Yrv:ki (.const (.slice none 0 0))=true:=(Eq.refl _).trans rfl
theorem XD {op:BinOp} {x y:ae}:xW P op t x y false=qN P op t x y:=(Eq.refl _).trans rfl
theorem Yzm {op:BinOp} {x y:ae}:xW P op t x y true=uH P op t x:=(Eq.refl _).trans rfl
def yW (x:ae) (neg:Bool):Option KA→Option ae
 | some .slice=>r_ neg x
 | _=>none
theorem Yxa {x:ae}:uH P .eql t x=yW x false (iK P t):=by
 simp only [uH,yW];cases iK P t with | none=>rfl | some k=>cases k<;>rfl
theorem Yy1 {x:ae}:uH P .neq t x=yW x true (iK P t):=by
 simp only [uH,yW];cases iK P t with | none=>rfl | some k=>cases k<;>rfl
theorem Ykz {x:ae} {neg:Bool}:yW x neg (some .slice)=r_ neg x:=(Eq.refl _).trans rfl
theorem Yt7 {neg:Bool}:r_ neg .aU=some .ig:=(Eq.refl _).trans rfl
theorem Xy {neg:Bool} {s:Nat} {es:List ae}:r_ neg (.ps s es)=some (if es.length=0 then .ig else .bool neg):=(Eq.refl _).trans rfl
theorem Xj {neg:Bool} {b o n s:Nat}:r_ neg (.os b o n s)=some (if n=0 then .ig else .bool neg):=(Eq.refl _).trans rfl
theorem XP {neg:Bool} {b o n c s:Nat}:r_ neg (.oc b o n c s)=some (if n=0 then .ig else .bool neg):=(Eq.refl _).trans rfl
theorem XA {op:BinOp} {u:TypeId}:c9 P σ nm ρ (.binOp op t x y u)=(xW P op t (ρ x) (ρ y) (ki y)).map (·,σ):=(Eq.refl _).trans rfl
theorem Mw {op:UnOp}:c9 P σ nm ρ (.unOp op t x)=(E4 op (ρ x)).map (·,σ):=(Eq.refl _).trans rfl
theorem Z6 {u:TypeId}:c9 P σ nm ρ (.convert t u x)=(oZ P t u (ρ x)).map (·,σ):=(Eq.refl _).trans rfl
def mkIf (t:TypeId) (v:ae) (σ:ai):KA→Option (ae×ai)
 | .iface=>none
 | _=>some (.iface t v,σ)
theorem Ytx:c9 P σ nm ρ (.makeInterface t x)=(iK P t).bind (mkIf t (ρ x) σ):=by
 simp only [c9];cases iK P t with | none=>rfl | some K=>cases K<;>rfl
theorem Zw5 {v:ae}:mkIf t v σ .struct=some (.iface t v,σ):=(Eq.refl _).trans rfl
theorem Yln {v:ae}:mkIf t v σ .ptr=some (.iface t v,σ):=(Eq.refl _).trans rfl
theorem Yin {v:ae}:mkIf t v σ .map=some (.iface t v,σ):=(Eq.refl _).trans rfl
theorem Yn3 {v:ae}:mkIf t v σ .str=some (.iface t v,σ):=(Eq.refl _).trans rfl
theorem Ykr {v:ae} {k:IntKind}:mkIf t v σ (.int k)=some (.iface t v,σ):=(Eq.refl _).trans rfl
theorem Xe {f:FuncId} {a b:Array Operand}:c9 P σ nm ρ (.makeFunc (.func f) a b)=some (.fn f (a.toList.map ρ) (b.toList.map ρ),σ):=(Eq.refl _).trans rfl
theorem Xr:c9 P σ nm ρ (.makeMap t none)=some (.map nm,b_ σ nm (.map [] [] false)):=(Eq.refl _).trans rfl
theorem Zu8:c9 P σ nm ρ (.makeSlice t x y)=(bL P t).bind fun T=>j5 σ nm T (ρ x) (ρ y):=(Eq.refl _).trans rfl
theorem Yty {a b c:Option Operand}:c9 P σ nm ρ (.slice t x a b c)=(bL P t).bind fun T=>(iX T (ρ x) (a.map ρ) (b.map ρ) (c.map ρ)).map (·,σ):=(Eq.refl _).trans rfl
theorem Zvt {i:Nat}:c9 P σ nm ρ (.fieldAddr t x i)=(bL P t).bind fun T=>(jZ T (ρ x) i).map (·,σ):=(Eq.refl _).trans rfl
theorem Ypc {i:Nat}:c9 P σ nm ρ (.field t x i)=(bL P t).bind fun T=>(pL T (ρ x) i).map (·,σ):=(Eq.refl _).trans rfl
theorem Zug:c9 P σ nm ρ (.indexAddr t x y)=(bL P t).bind fun T=>(fB T (ρ x) (ρ y)).map (·,σ):=(Eq.refl _).trans rfl
theorem Ytr:c9 P σ nm ρ (.index t x y)=(bL P t).bind fun T=>(pR T (ρ x) (ρ y)).map (·,σ):=(Eq.refl _).trans rfl
theorem Yo3 {ok:Bool}:c9 P σ nm ρ (.lookup t x y ok)=(bL P t).bind fun T=>(lH σ T (ρ x) (ρ y) ok).map (·,σ):=(Eq.refl _).trans rfl
theorem Yk7:c9 P σ nm ρ (.insert t x y z)=(bL P t).bind fun T=>(gG σ T (ρ x) (ρ y) (ρ z)).map (.undef, ·):=(Eq.refl _).trans rfl
theorem Zup:c9 P σ nm ρ (.mapUpdate t x y z)=(bL P t).bind fun T=>(gG σ T (ρ x) (ρ y) (ρ z)).map (.undef, ·):=(Eq.refl _).trans rfl
def vZ (σ:ai) (nm:Nat):KA→ae→Option (ae×ai)
 | .str, .str s=>some (.it nm,b_ σ nm (.iter s 0))
 | .map, .pm ks vs=>some (.it nm,b_ σ nm (.lu ks vs []))
 | _,_=>none
theorem Ytp:c9 P σ nm ρ (.range t x)=(bL P t).bind fun T=>vZ σ nm T.kind (ρ x):=by
 simp only [c9];cases bL P t with
 | none=>rfl
 | some T=>simp only [eA];cases T.kind<;>(try rfl)<;>cases ρ x<;>rfl
theorem Yf {s:ByteArray}:vZ σ nm .str (.str s)=some (.it nm,b_ σ nm (.iter s 0)):=(Eq.refl _).trans rfl
theorem Zt {ks vs:List ae}:vZ σ nm .map (.pm ks vs)=some (.it nm,b_ σ nm (.lu ks vs [])):=(Eq.refl _).trans rfl
theorem Ypk:c9 P σ nm ρ (.entry x)=oG σ (ρ x):=(Eq.refl _).trans rfl
def Jo (σ:ai):Option bE→Option (ae×ai)
 | some (.lu ks vs seen)=>match seen.getLast? with
  | some i=>some (.dA [ks.getD i .undef,vs.getD i .undef],σ)
  | none=>none
 | _=>none
theorem XT {b:Nat}:oG σ (.it b)=Jo σ (bH σ b):=by
 simp only [oG,Jo];cases bH σ b with | none=>rfl | some x=>cases x<;>rfl
theorem Ymw {ks vs:List ae} {seen:List Nat} {i:Nat}:Jo σ (some (.lu ks vs (seen++[i])))=some (.dA [ks.getD i .undef,vs.getD i .undef],σ):=by
 simp [Jo]
theorem Yxv:c9 P σ nm ρ (.next x true)=nt σ (ρ x):=(Eq.refl _).trans rfl
theorem Yo5 {u v:TypeId} {ok:Bool}:c9 P σ nm ρ (.typeAssert x u v ok)=(jh P (ρ x) v ok).map (·,σ):=(Eq.refl _).trans rfl
def My (σ:ai) (i:Nat):ae→Option (ae×ai)
 | .dA vs=>(vs[i]?).map (·,σ)
 | _=>none
theorem Ygl {i:Nat}:c9 P σ nm ρ (.extract x i)=My σ i (ρ x):=by simp only [c9,My];cases ρ x<;>rfl
theorem Yxg {i:Nat} {vs:List ae}:My σ i (.dA vs)=(vs[i]?).map (·,σ):=(Eq.refl _).trans rfl
theorem Ygr {b:Builtin} {args:Array Operand} {ts:Array TypeId}:c9 P σ nm ρ (.call ⟨.builtin b,args,ts⟩)=fc P σ nm b ts.toList (args.toList.map ρ):=(Eq.refl _).trans rfl
theorem Yhq:iK P t=(aF P t).map (·.key):=(Eq.refl _).trans rfl
end
end Go.c8
