/- Part 18 of my own framework and of the walks of functions: AbsS. -/
import Derived.Test.YtfjbdamcmiglgaaGreatOwn17
abbrev fZ:=@List.replicate_succ
set_option linter.unusedVariables false
set_option linter.unusedSectionVars false
set_option linter.unusedSimpArgs false
namespace Go.dm
open Go
section
variable {P:Program} {lo:Ctx} {Q:ct→St→Prop} {n:Nat} {k:List KI} {tm:List ah} {σ:ai} {all:Array Oper} {l:List Oper}
theorem ZJ {e:ct}:eF P lo Q (n+1) [] e tm σ=Q e ⟨tm,σ⟩:=(Eq.refl _).trans rfl
theorem Yxv:eF P lo Q (n+1) (.code .skip :: k) .normal tm σ=eF P lo Q n k .normal tm σ:=(Eq.refl _).trans rfl
theorem Zw {a b:Code}:eF P lo Q (n+1) (.code (.seq a b) :: k) .normal tm σ=eF P lo Q n (.code a :: .code b :: k) .normal tm σ:=(Eq.refl _).trans rfl
theorem Yyc {c:Operand} {a b:Code}:eF P lo Q (n+1) (.code (.cond c a b) :: k) .normal tm σ=Aj P lo Q n (ev tm c) a b k tm σ:=(Eq.refl _).trans rfl
theorem Ysa {id:Nat} {c:Code}:eF P lo Q (n+1) (.code (.block id c) :: k) .normal tm σ=eF P lo Q n (.code c :: .cw id :: k) .normal tm σ:=(Eq.refl _).trans rfl
theorem Ypo {id:Nat} {ops:Array Oper}:eF P lo Q (n+1) (.code (.region id ops false) :: k) .normal tm σ=eF P lo Q n (.ops ops ops.toList :: k) .normal tm σ:=(Eq.refl _).trans rfl
theorem Zc {id:Nat} {ops:Array Oper}:eF P lo Q (n+1) (.code (.region id ops true) :: k) .normal tm σ=aG P lo Q (.code (.region id ops true) :: k) .normal ⟨tm,σ⟩:=(Eq.refl _).trans rfl
theorem Yx0 {id:Nat}:eF P lo Q (n+1) (.code (.exit id) :: k) .normal tm σ=eF P lo Q n k (.exit id) tm σ:=(Eq.refl _).trans rfl
theorem ZF:eF P lo Q (n+1) (.code .ret :: k) .normal tm σ=eF P lo Q n k .ret tm σ:=(Eq.refl _).trans rfl
theorem Yu3 {c:Code}:eF P lo Q (n+1) (.code (.scope c) :: k) .normal tm σ=eF P lo Q n (.code c :: .AP :: k) .normal tm σ:=(Eq.refl _).trans rfl
theorem Ytg {i:Nat}:eF P lo Q (n+1) (.code (.label i) :: k) .normal tm σ=eF P lo Q n k .normal tm σ:=(Eq.refl _).trans rfl
theorem Yw5 {c:Code}:eF P lo Q (n+1) (.code (.loop c) :: k) .normal tm σ=aG P lo Q (.code (.loop c) :: k) .normal ⟨tm,σ⟩:=(Eq.refl _).trans rfl
theorem Zwk {f:Operand} {ps:Array Tmp} {a b:Code}:eF P lo Q (n+1) (.code (.rangeFunc f ps a b) :: k) .normal tm σ=aG P lo Q (.code (.rangeFunc f ps a b) :: k) .normal ⟨tm,σ⟩:=(Eq.refl _).trans rfl
theorem Y4 {i:Nat}:eF P lo Q (n+1) (.code (.goto i) :: k) .normal tm σ=eF P lo Q n k (.goto i) tm σ:=(Eq.refl _).trans rfl
theorem Zv8 {c:Code} {i:Nat}:eF P lo Q (n+1) (.code c :: k) (.exit i) tm σ=eF P lo Q n k (.exit i) tm σ:=(Eq.refl _).trans rfl
theorem Zx8 {c:Code} {i:Nat}:eF P lo Q (n+1) (.code c :: k) (.goto i) tm σ=eF P lo Q n k (.goto i) tm σ:=(Eq.refl _).trans rfl
theorem Ycc {c:Code}:eF P lo Q (n+1) (.code c :: k) .ret tm σ=eF P lo Q n k .ret tm σ:=(Eq.refl _).trans rfl
theorem Yir:eF P lo Q (n+1) (.ops all [] :: k) .normal tm σ=eF P lo Q n k .normal tm σ:=(Eq.refl _).trans rfl
theorem Yc1 {o:Oper}:eF P lo Q (n+1) (.ops all (o :: l) :: k) .normal tm σ=Ak P lo Q n (mN all tm o) all o l k tm σ:=(Eq.refl _).trans rfl
theorem Zts {id:Nat}:eF P lo Q (n+1) (.cw id :: k) .normal tm σ=eF P lo Q n k .normal tm σ:=(Eq.refl _).trans rfl
theorem Yi5 {id:Nat}:eF P lo Q (n+1) (.cw id :: k) .ret tm σ=eF P lo Q n k .ret tm σ:=(Eq.refl _).trans rfl
theorem Ybv {id i:Nat}:eF P lo Q (n+1) (.cw id :: k) (.goto i) tm σ=eF P lo Q n k (.goto i) tm σ:=(Eq.refl _).trans rfl
theorem Ybr {id i:Nat}:eF P lo Q (n+1) (.cw id :: k) (.exit i) tm σ=(if i=id then eF P lo Q n k .normal tm σ else eF P lo Q n k (.exit i) tm σ):=(Eq.refl _).trans rfl
theorem Zrg:eF P lo Q (n+1) (.AP :: k) .normal tm σ=eF P lo Q n k .normal tm σ:=(Eq.refl _).trans rfl
theorem Ygp:eF P lo Q (n+1) (.AP :: k) .ret tm σ=eF P lo Q n k .ret tm σ:=(Eq.refl _).trans rfl
theorem Yc5 {i:Nat}:eF P lo Q (n+1) (.AP :: k) (.exit i) tm σ=eF P lo Q n k (.exit i) tm σ:=(Eq.refl _).trans rfl
theorem YW {a b:Code}:Aj P lo Q (n+1) (.bool true) a b k tm σ=eF P lo Q n (.code a :: k) .normal tm σ:=by simp [Aj]
theorem Ysg {a b:Code}:Aj P lo Q (n+1) (.bool false) a b k tm σ=eF P lo Q n (.code b :: k) .normal tm σ:=by simp [Aj]
theorem Zp {a b:Code}:Aj P lo Q (n+1) .iH a b k tm σ=(eF P lo Q n (.code a :: k) .normal tm σ∧eF P lo Q n (.code b :: k) .normal tm σ):=(Eq.refl _).trans rfl
theorem Yxo {t:Bool} {a b:Code}:Aj P lo Q (n+1) (.bool t) a b k tm σ=((t=true→eF P lo Q n (.code a :: k) .normal tm σ)∧(t=false→eF P lo Q n (.code b :: k) .normal tm σ)):=(Eq.refl _).trans rfl
theorem Yy1 {o:Oper}:Ak P lo Q (n+1) (some true) all o l k tm σ=nc P lo Q n o all l k tm σ:=by simp [Ak]
theorem Ytd {o:Oper}:Ak P lo Q (n+1) (some false) all o l k tm σ=eF P lo Q n (.ops all l :: k) .normal (put tm o.dst gone) σ:=by simp [Ak]
theorem Za {o:Oper} {g:Bool}:Ak P lo Q (n+1) (some g) all o l k tm σ=((g=true→nc P lo Q n o all l k tm σ)∧(g=false→eF P lo Q n (.ops all l :: k) .normal (put tm o.dst gone) σ)):=(Eq.refl _).trans rfl
def u0 (P:Program) (lo:Ctx) (Q:ct→St→Prop) (b:Bool) (d:Option Tmp) (f:ah) (args:List ah) (all:Array Oper) (l:List Oper) (k:List KI) (tm:List ah) (σ:ai):Prop :=
 if b=true then tX P f args σ (fun r σ'=>aG P lo Q (.ops all l :: k) .normal ⟨put tm d r,σ'⟩) (fun u σ'=>aG P lo Q k (.panic u) ⟨tm,σ'⟩)
 else aq P f args σ fun r σ'=>aG P lo Q (.ops all l :: k) .normal ⟨put tm d r,σ'⟩
theorem YY {d:Option Tmp} {f:Operand} {args:Array Operand} {ts:Array TypeId} {t:TypeId} {p:String} {a:Array Edge} {g:Option (Nat×Bool)} :
  nc P lo Q (n+1) ⟨d, .call ⟨.value f,args,ts⟩,t,p,a,g⟩ all l k tm σ=u0 P lo Q (kf k) d (ev tm f) (args.toList.map (ev tm)) all l k tm σ:=(Eq.refl _).trans rfl
theorem Zj {d:Option Tmp} {f:ah} {args:List ah}:u0 P lo Q false d f args all l k tm σ=aq P f args σ fun r σ'=>aG P lo Q (.ops all l :: k) .normal ⟨put tm d r,σ'⟩:=by simp [u0]
theorem Ywe {d:Option Tmp} {f:ah} {args:List ah}:u0 P lo Q true d f args all l k tm σ=tX P f args σ (fun r σ'=>aG P lo Q (.ops all l :: k) .normal ⟨put tm d r,σ'⟩) (fun u σ'=>aG P lo Q k (.panic u) ⟨tm,σ'⟩):=by simp [u0]
theorem Yyy:kf []=false:=(Eq.refl _).trans rfl
theorem Yxm:kf (.C1 :: k)=true:=(Eq.refl _).trans rfl
theorem Yqy {c:Code}:kf (.code c :: k)=kf k:=(Eq.refl _).trans rfl
theorem Yy6 {l:List Oper}:kf (.ops all l :: k)=kf k:=(Eq.refl _).trans rfl
theorem Yzw {i:Nat}:kf (.cw i :: k)=kf k:=(Eq.refl _).trans rfl
theorem Yy8:kf (.AP :: k)=kf k:=(Eq.refl _).trans rfl
theorem Ywn {t:TypeId} {cs:List ah}:zR (.iface t (.agg cs))=(kZ cs).map fun l=>.iface t (.agg l.toArray):=(Eq.refl _).trans rfl
theorem Yxn {t:TypeId} {i:IntKind} {m:Int}:zR (.iface t (.int i m))=some (.iface t (.int i m)):=(Eq.refl _).trans rfl
theorem Ysf:kZ []=some []:=(Eq.refl _).trans rfl
theorem Ysl {i:IntKind} {m:Int} {r:List ah}:kZ (.int i m :: r)=(kZ r).map (.int i m :: ·):=(Eq.refl _).trans rfl
theorem Yx8 {u:Value} {s:St}:aG P lo Q [] (.panic u) s=Q (.panic u) s:=(Eq.refl _).trans rfl
theorem Yv6 {c:Code} {u:Value} {s:St}:aG P lo Q (.code c :: k) (.panic u) s=aG P lo Q k (.panic u) s:=(Eq.refl _).trans rfl
theorem Yw8 {u:Value} {s:St}:aG P lo Q (.ops all l :: k) (.panic u) s=aG P lo Q k (.panic u) s:=(Eq.refl _).trans rfl
theorem Yw {i:Nat} {u:Value} {s:St}:aG P lo Q (.cw i :: k) (.panic u) s=aG P lo Q k (.panic u) s:=(Eq.refl _).trans rfl
theorem YE {u:Value} {s:St}:aG P lo Q (.C1 :: k) (.panic u) s=aG P lo Q k (.panic u) s:=(Eq.refl _).trans rfl
theorem Zt {e:ct}:eF P lo Q (n+1) (.C1 :: k) e tm σ=eF P lo Q n k e tm σ:=by cases e<;>simp only [eF]
end
def P5:Op→Bool
 | .call ⟨.value _,_,_⟩=>true
 | .panic _=>true
 | .next _ false=>true
 | _=>false
section
variable {P:Program} {lo:Ctx} {Q:ct→St→Prop} {n:Nat} {k:List KI} {tm:List ah} {σ:ai} {all:Array Oper} {l:List Oper}
theorem Yyb {r:ah} {σ':ai} {dst:Option Tmp}:mn P lo Q (n+1) (some (r,σ')) dst all l k tm=eF P lo Q n (.ops all l :: k) .normal (put tm dst r) σ':=(Eq.refl _).trans rfl
theorem KR {dst:Option Tmp}:mn P lo Q n none dst all l k tm=False:=by cases n<;>rfl
theorem KP {c:Prop} [Decidable c] {x:Option (ah×ai)} {dst:Option Tmp}:mn P lo Q n (if c then x else none) dst all l k tm=(c∧mn P lo Q n x dst all l k tm):=by
 by_cases h:c<;>simp [h,KR]
theorem ZH {c:Prop} [Decidable c] {x:c→Option (ah×ai)} {dst:Option Tmp}:mn P lo Q n (if h:c then x h else none) dst all l k tm = ∃ h:c,mn P lo Q n (x h) dst all l k tm:=by
 by_cases h:c<;>simp [h,KR]
theorem Zwh {α β:Type} {c:Prop} [Decidable c] {x:Option α} {f : α→Option β}:(if c then x else none).bind f=if c then x.bind f else none:=by split<;>rfl
theorem Ybe {α β:Type} {c:Prop} [Decidable c] {x:Option α} {f : α→β}:(if c then x else none).map f=if c then x.map f else none:=by split<;>rfl
theorem Zsm {α β:Type} {c:Prop} [Decidable c] {x:c→Option α} {f : α→Option β}:(if h:c then x h else none).bind f=if h:c then (x h).bind f else none:=by split<;>rfl
theorem Zx4 {α β:Type} {c:Prop} [Decidable c] {x:c→Option α} {f : α→β}:(if h:c then x h else none).map f=if h:c then (x h).map f else none:=by split<;>rfl
theorem Ykw {tm:List ah} {d:Option Tmp} {op:Op} {t:TypeId} {p:String} {a:Array Edge}:mN all tm ⟨d,op,t,p,a,none⟩=some true:=(Eq.refl _).trans rfl
def DK (want:Bool):Option ah→Option Bool
 | some (.bool b)=>some (b==want)
 | some (.oD v)=>if xn v then none else some false
 | _=>none
def N9 (tm:List ah) (want:Bool):Option Tmp→Option Bool
 | some d=>DK want (tm[d]?)
 | none=>none
theorem Ypn {tm:List ah} {d:Option Tmp} {op:Op} {t:TypeId} {p:String} {a:Array Edge} {j:Nat} {want:Bool}:mN all tm ⟨d,op,t,p,a,some (j,want)⟩=N9 tm want ((all.toList[j]?).bind (·.dst)):=by
 simp only [mN,N9,gP];cases (all[j]?.bind (·.dst)) with
 | none=>rfl
 | some d =>
  simp only [DK];cases tm[d]? with
  | none=>rfl
  | some v=>cases v<;>rfl
theorem Ypi {d:Tmp} {want:Bool}:N9 tm want (some d)=DK want (tm[d]?):=(Eq.refl _).trans rfl
theorem Yp9 {want:Bool}:DK want (some gone)=some false:=rfl
theorem Ymg {b want:Bool}:DK want (some (.bool b))=some (b==want):=(Eq.refl _).trans rfl
theorem Ywq {t:Tmp}:ev tm (.tmp t)=tm.getD t .undef:=(Eq.refl _).trans rfl
theorem Yp1 {v:Value}:ev tm (.const v)=ofValue v:=(Eq.refl _).trans rfl
theorem Yg7 {g:Nat}:ev tm (.global g) = .oD (.pointer (some ⟨g,0,none⟩)):=(Eq.refl _).trans rfl
theorem Yvo {f:FuncId}:ev tm (.func f) = .fn f [] []:=(Eq.refl _).trans rfl
theorem Yt6 {b:Bool}:ofValue (.bool b) = .bool b:=(Eq.refl _).trans rfl
theorem Yz4 {k:IntKind} {n:Int}:ofValue (.int k n) = .int k n:=(Eq.refl _).trans rfl
theorem Yz0 {s:ByteArray}:ofValue (.string s) = .str s:=(Eq.refl _).trans rfl
theorem Yfh:ofValue (.pointer none) = .bY:=(Eq.refl _).trans rfl
theorem Yvc:ofValue (.slice none 0 0) = .aW:=(Eq.refl _).trans rfl
theorem Yhi:ofValue (.map none) = .cM:=(Eq.refl _).trans rfl
theorem Yla:ofValue .nilFunc = .aA:=(Eq.refl _).trans rfl
theorem Yki:ofValue .nilIface = .gk:=(Eq.refl _).trans rfl
theorem Yl4 {d:Tmp} {v:ah}:put tm (some d) v=tm.set d v:=(Eq.refl _).trans rfl
theorem Yo5 {v:ah}:put tm none v=tm:=(Eq.refl _).trans rfl
theorem Yh3 {cs:List ah}:(ah.agg cs).cells=cs:=(Eq.refl _).trans rfl
theorem Vk {k:IntKind} {n:Int}:(ah.int k n).cells=[.int k n]:=(Eq.refl _).trans rfl
theorem Yc9 {b:Bool}:(ah.bool b).cells=[.bool b]:=(Eq.refl _).trans rfl
theorem Yfb {b:ByteArray}:(ah.str b).cells=[.str b]:=(Eq.refl _).trans rfl
theorem Zs7:ah.bY.cells=[.bY]:=(Eq.refl _).trans rfl
theorem Yib {b o:Nat}:(ah.ptr b o).cells=[.ptr b o]:=(Eq.refl _).trans rfl
theorem Yos {b i f:Nat}:(ah.rp b i f).cells=[.rp b i f]:=(Eq.refl _).trans rfl
theorem Ykt {cs:List ah}:(ah.pp cs).cells=[.pp cs]:=(Eq.refl _).trans rfl
theorem Yd2:ah.aW.cells=[.aW]:=(Eq.refl _).trans rfl
theorem Yl7 {sz:Nat} {es:List ah}:(ah.ps sz es).cells=[.ps sz es]:=(Eq.refl _).trans rfl
theorem Yle {b o m s:Nat}:(ah.os b o m s).cells=[.os b o m s]:=(Eq.refl _).trans rfl
theorem Yol {b o m c s:Nat}:(ah.oc b o m c s).cells=[.oc b o m c s]:=(Eq.refl _).trans rfl
theorem Zwl:ah.aA.cells=[.aA]:=(Eq.refl _).trans rfl
theorem Yku {f:FuncId} {x y:List ah}:(ah.fn f x y).cells=[.fn f x y]:=(Eq.refl _).trans rfl
theorem Ygy {b:Nat}:(ah.lN b).cells=[.lN b]:=(Eq.refl _).trans rfl
theorem Ztn:ah.cM.cells=[.cM]:=(Eq.refl _).trans rfl
theorem Yga {b:Nat}:(ah.map b).cells=[.map b]:=(Eq.refl _).trans rfl
theorem Yp8 {x y:List ah}:(ah.pm x y).cells=[.pm x y]:=(Eq.refl _).trans rfl
theorem Zw0:ah.gk.cells=[.gk]:=(Eq.refl _).trans rfl
theorem Zvj {t:TypeId} {v:ah}:(ah.iface t v).cells=[.iface t v]:=(Eq.refl _).trans rfl
theorem Zvw:ah.undef.cells=[.undef]:=(Eq.refl _).trans rfl
theorem Yno {k:IntKind} {n:Int}:(ah.int k n).cT=true:=(Eq.refl _).trans rfl
theorem Yj4 {b:Bool}:(ah.bool b).cT=true:=(Eq.refl _).trans rfl
theorem Ypv {b:ByteArray}:(ah.str b).cT=true:=(Eq.refl _).trans rfl
theorem Zw8:ah.bY.cT=true:=(Eq.refl _).trans rfl
theorem Ymr {b o:Nat}:(ah.ptr b o).cT=true:=(Eq.refl _).trans rfl
theorem Yui {b i f:Nat}:(ah.rp b i f).cT=true:=(Eq.refl _).trans rfl
theorem Ysm {cs:List ah}:(ah.pp cs).cT=true:=(Eq.refl _).trans rfl
theorem Yej:ah.aW.cT=true:=(Eq.refl _).trans rfl
theorem Yv0 {sz:Nat} {es:List ah}:(ah.ps sz es).cT=true:=(Eq.refl _).trans rfl
theorem Yr8 {b o m s:Nat}:(ah.os b o m s).cT=true:=(Eq.refl _).trans rfl
theorem Yuf {b o m c s:Nat}:(ah.oc b o m c s).cT=true:=(Eq.refl _).trans rfl
theorem Yd5:ah.aA.cT=true:=(Eq.refl _).trans rfl
theorem Yuo {f:FuncId} {x y:List ah}:(ah.fn f x y).cT=true:=(Eq.refl _).trans rfl
theorem Ylx {b:Nat}:(ah.lN b).cT=true:=(Eq.refl _).trans rfl
theorem Zv3:ah.cM.cT=true:=(Eq.refl _).trans rfl
theorem Yml {b:Nat}:(ah.map b).cT=true:=(Eq.refl _).trans rfl
theorem Yst {x y:List ah}:(ah.pm x y).cT=true:=(Eq.refl _).trans rfl
theorem Yd4:ah.gk.cT=true:=(Eq.refl _).trans rfl
theorem Ybm {t:TypeId} {v:ah}:(ah.iface t v).cT=true:=(Eq.refl _).trans rfl
theorem Yux {cs:List ah}:cX (.agg cs)=true:=(Eq.refl _).trans rfl
theorem Yvf {k:IntKind} {n:Int}:cX (.int k n)=false:=(Eq.refl _).trans rfl
theorem Ymd {b:Bool}:cX (.bool b)=false:=(Eq.refl _).trans rfl
theorem Yrt {b:ByteArray}:cX (.str b)=false:=(Eq.refl _).trans rfl
theorem YR {sz:Nat} {es:List ah}:cX (.ps sz es)=false:=(Eq.refl _).trans rfl
theorem Yzj {b o m s:Nat}:cX (.os b o m s)=false:=(Eq.refl _).trans rfl
theorem YT {b o m c s:Nat}:cX (.oc b o m c s)=false:=(Eq.refl _).trans rfl
theorem Yoc:cX .aW=false:=(Eq.refl _).trans rfl
theorem Yv1 {b o:Nat}:cX (.ptr b o)=false:=(Eq.refl _).trans rfl
theorem Yjx {t:TypeId} {v:ah}:cX (.iface t v)=false:=(Eq.refl _).trans rfl
theorem Yn4 {b:Nat}:bP [] b=none:=by simp [bP]
theorem Yiy {x:Option bO} {σ:ai}:bP (x :: σ) 0=x:=by simp [bP]
theorem Ygb {x:Option bO} {σ:ai} {b:Nat}:bP (x :: σ) (b+1)=bP σ b:=by simp [bP]
theorem Zpg {y:bO}:cr [] 0 y=[some y]:=(Eq.refl _).trans rfl
theorem Zpi {b:Nat} {y:bO}:cr [] (b+1) y=none :: cr [] b y:=by simp [cr,fZ]
theorem Yeh {x:Option bO} {σ:ai} {y:bO}:cr (x :: σ) 0 y=some y :: σ:=by simp [cr]
theorem Yik {x:Option bO} {σ:ai} {b:Nat} {y:bO}:cr (x :: σ) (b+1) y=x :: cr σ b y:=by
 simp only [cr,ax,Nat.add_lt_add_iff_right];split
 ·simp
 ·simp
def zI (l:fj) (off:Nat):Option bO→Option ah
 | some (.var cs)=>j5 l (cs.drop off)
 | _=>none
def uu (l:fj) (i f:Nat):Option bO→Option ah
 | some (.row es _)=>if i<es.length then j5 l ((es.getD i .undef).cells.drop f) else none
 | _=>none
theorem Yp4 {l:fj} {b off:Nat}:jv σ l (.ptr b off)=zI l off (bP σ b):=by
 simp only [jv,zI];cases bP σ b with | none=>rfl | some x=>cases x<;>rfl
theorem Yti {l:fj} {b i f:Nat}:jv σ l (.rp b i f)=uu l i f (bP σ b):=by
 simp only [jv,uu];cases bP σ b with | none=>rfl | some x=>cases x<;>rfl
theorem Yve {l:fj} {cs:List ah}:jv σ l (.pp cs)=j5 l cs:=(Eq.refl _).trans rfl
theorem Yfd {l:fj} {off:Nat} {cs:List ah}:zI l off (some (.var cs))=j5 l (cs.drop off):=(Eq.refl _).trans rfl
theorem Zxu {l:fj} {i f fz:Nat} {es:List ah}:uu l i f (some (.row es fz))=if i<es.length then j5 l ((es.getD i .undef).cells.drop f) else none:=(Eq.refl _).trans rfl
theorem Yom {sz b:Nat} {z:List ah} {key:KA} {cs:List ah}:j5 ⟨sz,true,b,z,key⟩ cs=if sz≤cs.length then some (.agg (cs.take sz)) else none:=(Eq.refl _).trans rfl
theorem Yog {sz b:Nat} {z:List ah} {key:KA} {c:ah} {cs:List ah}:j5 ⟨sz,false,b,z,key⟩ (c :: cs)=some c:=(Eq.refl _).trans rfl
def wX (sz off:Nat) (v:ah) (σ:ai) (b:Nat):Option bO→Option ai
 | some (.var cs)=>if off+sz≤cs.length then some (cr σ b (.var (cH cs off v.cells))) else none
 | _=>none
def sF (sz i f:Nat) (v:ah) (σ:ai) (b:Nat):Option bO→Option ai
 | some (.row es fz)=>if fz≤i∧i<es.length∧f+sz≤(es.getD i .undef).cells.length∧0<sz then
   some (cr σ b (.row (es.set i (jM (cX (es.getD i .undef)) (cH (es.getD i .undef).cells f v.cells))) fz)) else none
 | _=>none
theorem Yff {l:fj} {b off:Nat} {v:ah}:mS σ l (.ptr b off) v=if v.cells.length=l.sz∧v.cells.all ah.cT=true then wX l.sz off v σ b (bP σ b) else none:=by
 simp only [mS,wX];split
 ·cases bP σ b with | none=>rfl | some x=>cases x<;>rfl
 ·rfl
theorem Ym3 {l:fj} {b i f:Nat} {v:ah}:mS σ l (.rp b i f) v=if v.cells.length=l.sz∧v.cells.all ah.cT=true then sF l.sz i f v σ b (bP σ b) else none:=by
 simp only [mS,sF];split
 ·cases bP σ b with | none=>rfl | some x=>cases x<;>rfl
 ·rfl
theorem Ycy {sz off b:Nat} {v:ah} {cs:List ah}:wX sz off v σ b (some (.var cs))=if off+sz≤cs.length then some (cr σ b (.var (cH cs off v.cells))) else none:=(Eq.refl _).trans rfl
theorem Zum {sz i f b fz:Nat} {v:ah} {es:List ah}:sF sz i f v σ b (some (.row es fz))=if fz≤i∧i<es.length∧f+sz≤(es.getD i .undef).cells.length∧0<sz then
   some (cr σ b (.row (es.set i (jM (cX (es.getD i .undef)) (cH (es.getD i .undef).cells f v.cells))) fz)) else none:=(Eq.refl _).trans rfl
theorem Zv4 {cs:List ah} {o:Nat}:cH cs o []=cs:=(Eq.refl _).trans rfl
theorem Zuu {cs vs:List ah} {o:Nat} {v:ah}:cH cs o (v :: vs)=cH (cs.set o v) (o+1) vs:=(Eq.refl _).trans rfl
theorem Ybd {cs:List ah}:jM true cs = .agg cs:=(Eq.refl _).trans rfl
theorem Z7 {c:ah} {cs:List ah}:jM false (c :: cs)=c:=(Eq.refl _).trans rfl
end
def vd:ah→Nat→Option ah
 | .ptr b o,off=>some (.ptr b (o+off))
 | .rp b i f,off=>some (.rp b i (f+off))
 | .pp cs,off=>some (.pp (cs.drop off))
 | _,_=>none
def N7 (x:ah):Option (Nat×Option fj)→Option ah
 | some (off,some l)=>if l.sz≠0 then vd x off else none
 | _=>none
section
variable {sz bs:Nat} {ag:Bool} {z:List ah} {fl:List (Nat×Option fj)} {e kt:Option fj} {x y:ah} {i:Nat}
theorem Zqe:kc ⟨⟨sz,ag,bs,z, .struct⟩,fl,e,kt⟩ x i=N7 x fl[i]?:=by
 simp only [kc,j9.kind];rcases fl[i]? with _ | ⟨off,_ | l⟩
 ·rfl
 ·rfl
 ·simp only [N7];cases x<;>rfl
theorem Ymh {off:Nat} {l:fj}:N7 x (some (off,some l))=if l.sz≠0 then vd x off else none:=(Eq.refl _).trans rfl
theorem Yfa {b o off:Nat}:vd (.ptr b o) off=some (.ptr b (o+off)):=(Eq.refl _).trans rfl
theorem Ylw {b i f off:Nat}:vd (.rp b i f) off=some (.rp b i (f+off)):=(Eq.refl _).trans rfl
theorem Yl1 {cs:List ah} {off:Nat}:vd (.pp cs) off=some (.pp (cs.drop off)):=(Eq.refl _).trans rfl
def He (cs:List ah):Option (Nat×Option fj)→Option ah
 | some (off,some l)=>j5 l (cs.drop off)
 | _=>none
theorem Yii {cs:List ah}:qd ⟨⟨sz,ag,bs,z, .struct⟩,fl,e,kt⟩ (.agg cs) i=He cs fl[i]?:=by
 simp only [qd,j9.kind];rcases fl[i]? with _ | ⟨off,_ | l⟩<;>rfl
theorem Yez {cs:List ah} {off:Nat} {l:fj}:He cs (some (off,some l))=j5 l (cs.drop off):=(Eq.refl _).trans rfl
theorem ZW {l:fj} {b off n s:Nat} {k:IntKind} {i:Int}:fQ ⟨⟨sz,ag,bs,z, .slice⟩,fl,some l,kt⟩ (.os b off n s) (.int k i)=if l.sz=s∧0≤i∧i<n then some (.rp b (off+i.toNat) 0) else none:=by
 simp [fQ,j9.kind,j9.vY]
theorem ZG {l:fj} {b off n c s:Nat} {k:IntKind} {i:Int}:fQ ⟨⟨sz,ag,bs,z, .slice⟩,fl,some l,kt⟩ (.oc b off n c s) (.int k i)=if l.sz=s∧0≤i∧i<n then some (.rp b (off+i.toNat) 0) else none:=by
 simp [fQ,j9.kind,j9.vY]
theorem Zy {l:fj} {s:Nat} {es:List ah} {k:IntKind} {i:Int}:fQ ⟨⟨sz,ag,bs,z, .slice⟩,fl,some l,kt⟩ (.ps s es) (.int k i)=if l.sz=s∧0≤i∧i<es.length then some (.pp (es.getD i.toNat .undef).cells) else none:=by
 simp [fQ,j9.kind,j9.vY]
theorem Yzn {l:fj} {b off m:Nat} {k:IntKind} {i:Int}:fQ ⟨⟨sz,ag,bs,z, .array m⟩,fl,some l,kt⟩ (.ptr b off) (.int k i)=if 0≤i∧i<m then some (.ptr b (off+i.toNat*l.sz)) else none:=(Eq.refl _).trans rfl
theorem Zd {l:fj} {cs:List ah} {m:Nat} {k:IntKind} {i:Int}:qk ⟨⟨sz,ag,bs,z, .array m⟩,fl,some l,kt⟩ (.agg cs) (.int k i)=if 0≤i∧i<m then j5 l (cs.drop (i.toNat*l.sz)) else none:=(Eq.refl _).trans rfl
theorem YB {s:ByteArray} {k:IntKind} {i:Int}:qk ⟨⟨sz,ag,bs,z, .str⟩,fl,e,kt⟩ (.str s) (.int k i)=if h : 0≤i∧i.toNat<s.size then some (.int .u8 (s[i.toNat]'h.2).toNat) else none:=by
 by_cases h : 0≤i∧i.toNat<s.size
 ·rw [dif_pos h];exact dif_pos (⟨h,rfl⟩:(0≤i∧i.toNat<s.size)∧KA.str=KA.str)
 ·rw [dif_neg h];exact dif_neg (fun q:(0≤i∧i.toNat<s.size)∧KA.str=KA.str=>h q.1)
def zG (k:KA) (σ:ai) (x:ah):Option (ah×ai) :=
 match k with
 | .array n=>some (.int .i64 n,σ)
 | .str | .slice | .map=>(nT k σ x).map fun (n:Nat)=>(ah.int .i64 (n:Int),σ)
 | _=>none
theorem Yun {P:Program} {op:BinOp} {t:TypeId} {k k':IntKind} {a b:Int}:rR P op t (.int k a) (.int k' b)=if k=k' then i_ op k a b else none:=(Eq.refl _).trans rfl
theorem Yrr {P:Program} {op:BinOp} {t:TypeId} {a b:ByteArray}:rR P op t (.str a) (.str b)=mU op a b:=(Eq.refl _).trans rfl
theorem Ynx {P:Program} {op:BinOp} {t:TypeId} {a b:Bool}:rR P op t (.bool a) (.bool b)=mj P op t (.bool a) (.bool b):=(Eq.refl _).trans rfl
theorem Yu0 {P:Program} {op:BinOp} {t:TypeId} {a b:List ah}:rR P op t (.agg a) (.agg b)=mj P op t (.agg a) (.agg b):=(Eq.refl _).trans rfl
theorem Z6 {P:Program} {op:BinOp} {t:TypeId} {ks vs:List ah}:rR P op t (.pm ks vs) .cM=mj P op t (.pm ks vs) .cM:=(Eq.refl _).trans rfl
theorem Zws {P:Program} {op:BinOp} {t:TypeId} {b:Nat}:rR P op t (.map b) .cM=mj P op t (.map b) .cM:=(Eq.refl _).trans rfl
theorem Zwt {P:Program} {op:BinOp} {t:TypeId}:rR P op t .cM .cM=mj P op t .cM .cM:=(Eq.refl _).trans rfl
theorem ZZ {ks vs:List ah}:lS (.pm ks vs)=some true:=(Eq.refl _).trans rfl
theorem YC {b:Nat}:lS (.map b)=some true:=(Eq.refl _).trans rfl
theorem Yyw:lS .cM=some false:=(Eq.refl _).trans rfl
theorem Yz5 {k:IntKind} {a b:Int}:i_ .add k a b=some (.int k (k.wrap (a+b))):=(Eq.refl _).trans rfl
theorem Yxa {k:IntKind} {a b:Int}:i_ .sub k a b=some (.int k (k.wrap (a - b))):=(Eq.refl _).trans rfl
theorem YV {k:IntKind} {a b:Int}:i_ .mul k a b=some (.int k (k.wrap (a*b))):=(Eq.refl _).trans rfl
theorem Yxg {k:IntKind} {a b:Int}:i_ .quo k a b=if b≠0 then some (.int k (k.wrap (a.tdiv b))) else none:=(Eq.refl _).trans rfl
theorem Zf {k:IntKind} {a b:Int}:i_ .rem k a b=if b≠0 then some (.int k (a.tmod b)) else none:=(Eq.refl _).trans rfl
theorem YM {k:IntKind} {a b:Int}:i_ .eql k a b=some (.bool (decide (a=b))):=(Eq.refl _).trans rfl
theorem Ywj {k:IntKind} {a b:Int}:i_ .neq k a b=some (.bool (decide (a≠b))):=(Eq.refl _).trans rfl
theorem YG {k:IntKind} {a b:Int}:i_ .lss k a b=some (.bool (decide (a<b))):=(Eq.refl _).trans rfl
theorem Ywg {k:IntKind} {a b:Int}:i_ .leq k a b=some (.bool (decide (a≤b))):=(Eq.refl _).trans rfl
theorem YP {k:IntKind} {a b:Int}:i_ .gtr k a b=some (.bool (decide (b<a))):=(Eq.refl _).trans rfl
theorem Yw0 {k:IntKind} {a b:Int}:i_ .geq k a b=some (.bool (decide (b≤a))):=(Eq.refl _).trans rfl
theorem Yu2 {P:Program} {t:TypeId}:mj P .eql t x y=(vb P t x y).map .bool:=(Eq.refl _).trans rfl
theorem Yty {P:Program} {t:TypeId}:mj P .neq t x y=(vb P t x y).map fun b=>.bool !b:=(Eq.refl _).trans rfl
def Bt (P:Program) (t:TypeId) (x y:ah):Option KA→Option Bool
 | some .bool=>match x,y with
  | .bool a, .bool b=>some (a==b)
  | _,_=>none
 | some .ptr=>match n9 x,n9 y with
  | some false,some b=>some (!b)
  | some true,some false=>some false
  | _,_=>none
 | some .map=>match y with
  | .cM=>(lS x).map (!·)
  | _=>none
 | some .iface=>match lg x,lg y with
  | some true,some false | some false,some true=>some false
  | some false,some false=>if rz P t=true then some true else none
  | _,_=>none
 | some .func=>match ku x,ku y with
  | some false,some b=>some (!b)
  | some true,some false=>some false
  | _,_=>none
 | some .struct=>match x,y with
  | .agg xs, .agg ys=>if xs.map tL=ys.map tL∧va P t (xs.map tL)=true then some (ki xs ys) else none
  | _,_=>none
 | _=>none
theorem Ylm {P:Program} {t:TypeId}:vb P t x y=Bt P t x y (ja P t):=by
 unfold vb;cases ja P t with
 | none=>rfl
 | some K=>cases K<;>(try rfl)<;>(cases x<;>(try rfl)<;>cases y<;>rfl)
theorem Ypl {P:Program} {t:TypeId} {a b:Bool}:Bt P t (.bool a) (.bool b) (some .bool)=some (a==b):=(Eq.refl _).trans rfl
theorem Ycn {P:Program} {t:TypeId} {a b:List ah}:Bt P t (.agg a) (.agg b) (some .struct)=if a.map tL=b.map tL∧va P t (a.map tL)=true then some (ki a b) else none:=(Eq.refl _).trans rfl
theorem Yuv {P:Program} {t:TypeId}:Bt P t x .cM (some .map)=(lS x).map (!·):=(Eq.refl _).trans rfl
theorem ZP {f:FuncId} {a b:List ah}:ku (.fn f a b)=some true:=(Eq.refl _).trans rfl
theorem Y_:ku .aA=some false:=(Eq.refl _).trans rfl
theorem Yvd {k:IntKind} {a:Int}:tL (.int k a) = .int k:=(Eq.refl _).trans rfl
theorem NH {a:ByteArray}:tL (.str a) = .str:=(Eq.refl _).trans rfl
theorem Ypc {a:Bool}:tL (.bool a) = .bool:=(Eq.refl _).trans rfl
theorem Yzu {a b:ByteArray}:mU .add a b=if a.size+b.size≤1000000000 then some (.str (a++b)) else none:=(Eq.refl _).trans rfl
theorem Yzo {a b:ByteArray}:mU .eql a b=some (.bool (a.toList==b.toList)):=(Eq.refl _).trans rfl
theorem Yxt {a b:ByteArray}:mU .neq a b=some (.bool !(a.toList==b.toList)):=(Eq.refl _).trans rfl
theorem Y6 {a b:ByteArray}:mU .lss a b=some (.bool (Op.bytesLess a.toList b.toList)):=(Eq.refl _).trans rfl
theorem Yxe {b:Bool}:F6 .not (.bool b)=some (.bool !b):=(Eq.refl _).trans rfl
theorem Yzf {k:IntKind} {a:Int}:F6 .neg (.int k a)=some (.int k (k.wrap (0 - a))):=(Eq.refl _).trans rfl
theorem Yus {c a b:Bool}:pN (.bool c) (.bool a) (.bool b)=some (.bool (if c then a else b)):=(Eq.refl _).trans rfl
theorem Yw2 {c:Bool} {k k':IntKind} {a b:Int}:pN (.bool c) (.int k a) (.int k' b)=some (if c then .int k a else .int k' b):=(Eq.refl _).trans rfl
variable {σ:ai}
theorem Ys1 {s:ByteArray}:nT .str σ (.str s)=some s.size:=(Eq.refl _).trans rfl
theorem Yx6 {s:Nat} {es:List ah}:nT .slice σ (.ps s es)=some es.length:=(Eq.refl _).trans rfl
theorem Yo1:nT .slice σ .aW=some 0:=(Eq.refl _).trans rfl
theorem Yxr {b o n s:Nat}:nT .slice σ (.os b o n s)=some n:=(Eq.refl _).trans rfl
theorem Ywl {b o n c s:Nat}:nT .slice σ (.oc b o n c s)=some n:=(Eq.refl _).trans rfl
theorem Ycx:nT .map σ .cM=some 0:=(Eq.refl _).trans rfl
theorem Yxw {ks vs:List ah}:nT .map σ (.pm ks vs)=some ks.length:=(Eq.refl _).trans rfl
def EF:Option bO→Option Nat
 | some (.map ks _ _)=>some ks.length
 | _=>none
theorem Yt2 {b:Nat}:nT .map σ (.map b)=EF (bP σ b):=by
 simp only [nT,EF];cases bP σ b with | none=>rfl | some x=>cases x<;>rfl
theorem Yil {ks vs:List ah} {f:Bool}:EF (some (.map ks vs f))=some ks.length:=(Eq.refl _).trans rfl
theorem Z4 {s sz:Nat} {es:List ah}:fp σ sz (.ps s es)=if s=sz then some es else none:=(Eq.refl _).trans rfl
theorem Yt8 {sz:Nat}:fp σ sz .aW=some []:=(Eq.refl _).trans rfl
def u9 (off n:Nat):Option bO→Option (List ah)
 | some (.row es _)=>if off+n≤es.length then some ((es.drop off).take n) else none
 | _=>none
theorem ZA {sz b off n s:Nat}:fp σ sz (.os b off n s)=if s=sz then u9 off n (bP σ b) else none:=by
 simp only [fp,u9];split
 ·cases bP σ b with | none=>rfl | some x=>cases x<;>rfl
 ·rfl
theorem ZO {sz b off n c s:Nat}:fp σ sz (.oc b off n c s)=if s=sz then u9 off n (bP σ b) else none:=by
 simp only [fp,u9];split
 ·cases bP σ b with | none=>rfl | some x=>cases x<;>rfl
 ·rfl
theorem Ydh {off n fz:Nat} {es:List ah}:u9 off n (some (.row es fz))=if off+n≤es.length then some ((es.drop off).take n) else none:=(Eq.refl _).trans rfl
def G9 (k:KA) (σ:ai) (x:ah):Option (ah×ai) :=
 match k with
 | .slice=>(wx x).map fun (n:Nat)=>(ah.int .i64 (n:Int),σ)
 | _=>none
theorem Yy {P:Program} {nm:Nat} {t:TypeId}:fF P σ nm .len [t] [x]=(bU P t).bind fun T=>zG T.kind σ x:=by
 rfl
theorem Yly {m:Nat}:zG (.array m) σ x=some (.int .i64 m,σ):=(Eq.refl _).trans rfl
theorem Ylz:zG .str σ x=(nT .str σ x).map fun (n:Nat)=>(ah.int .i64 (n:Int),σ):=(Eq.refl _).trans rfl
theorem Ych:zG .slice σ x=(nT .slice σ x).map fun (n:Nat)=>(ah.int .i64 (n:Int),σ):=(Eq.refl _).trans rfl
theorem Ykr:zG .map σ x=(nT .map σ x).map fun (n:Nat)=>(ah.int .i64 (n:Int),σ):=(Eq.refl _).trans rfl
theorem QA {L:fj}:j9.kind ⟨L,fl,e,kt⟩=L.key:=(Eq.refl _).trans rfl
def xI (σ:ai) (nm:Nat) (e:fj) (s x:ah):KA→Option (ah×ai)
 | .slice=>(fp σ e.sz x).bind fun xs=>eO σ nm e s xs
 | .str=>match x with
  | .str y=>if e.sz=1 then eO σ nm e s (bytesOf y) else none
  | _=>none
 | .int _=>match x with
  | .int .i64 n=>if 0≤n∧n≤1000000000∧IntKind.i64.wrap n=n then eO σ nm e s (List.replicate n.toNat (zeroV e)) else none
  | _=>none
 | _=>none
theorem Yyq {P:Program} {nm:Nat} {t u:TypeId} {s:ah}:fF P σ nm .append [t,u] [s,x]=(bU P t).bind fun T=>(bU P u).bind fun U=>match T.kind,T.elem with
  | .slice,some e=>xI σ nm e s x U.kind
  | _,_=>none:=by
 simp only [fF];congr;funext T;congr;funext U;cases T.kind<;>(try rfl)<;>cases T.elem<;>(try rfl)<;>cases U.kind<;>rfl
def G5 (σ:ai) (nm:Nat) (s x:ah) (U:j9):KA→Option fj→Option (ah×ai)
 | .slice,some e=>xI σ nm e s x U.kind
 | _,_=>none
theorem Yeb {P:Program} {nm:Nat} {t u:TypeId} {s:ah}:fF P σ nm .append [t,u] [s,x]=(bU P t).bind fun T=>(bU P u).bind fun U=>G5 σ nm s x U T.kind T.elem:=by
 rw [Yyq];congr
theorem Yc2 {nm:Nat} {s:ah} {U:j9} {l:fj}:G5 σ nm s x U .slice (some l)=xI σ nm l s x U.kind:=(Eq.refl _).trans rfl
theorem Yd7 {nm:Nat} {l:fj} {s:ah}:xI σ nm l s x .slice=(fp σ l.sz x).bind fun xs=>eO σ nm l s xs:=(Eq.refl _).trans rfl
theorem Yox {nm:Nat} {l:fj} {s:ah} {y:ByteArray}:xI σ nm l s (.str y) .str=if l.sz=1 then eO σ nm l s (bytesOf y) else none:=(Eq.refl _).trans rfl
theorem Ylq {nm:Nat} {l:fj} {s:ah} {k:IntKind} {n:Int}:xI σ nm l s (.int .i64 n) (.int k)=if 0≤n∧n≤1000000000∧IntKind.i64.wrap n=n then eO σ nm l s (List.replicate n.toNat (zeroV l)) else none:=(Eq.refl _).trans rfl
theorem Yws {P:Program} {nm:Nat} {t:TypeId}:fF P σ nm .cap [t] [x]=(bU P t).bind fun T=>G9 T.kind σ x:=by
 simp only [fF];congr
theorem Yb1:G9 .slice σ x=(wx x).map fun (n:Nat)=>(ah.int .i64 (n:Int),σ):=(Eq.refl _).trans rfl
theorem Yhu:wx .aW=some 0:=(Eq.refl _).trans rfl
theorem Ytk {b o n c s:Nat}:wx (.oc b o n c s)=some c:=(Eq.refl _).trans rfl
def Ha (σ:ai) (x:ah):KA→Option fj→Option (ah×ai)
 | .slice,some e=>(kW x).bind fun n=>if n=0 then some (.dT [],σ) else (kQ σ e.sz x (List.replicate n (zeroV e))).map (.dT [], ·)
 | _,_=>none
theorem Yld {P:Program} {nm:Nat} {t:TypeId}:fF P σ nm .clear [t] [x]=(bU P t).bind fun T=>Ha σ x T.kind T.elem:=by
 simp only [fF];congr
theorem Yca {l:fj}:Ha σ x .slice (some l)=(kW x).bind fun n=>if n=0 then some (.dT [],σ) else (kQ σ l.sz x (List.replicate n (zeroV l))).map (.dT [], ·):=(Eq.refl _).trans rfl
def Hb (σ:ai) (d x:ah):KA→Option fj→KA→Option (ah×ai)
 | .slice,some e, .slice=>(kW d).bind fun n=>(fp σ e.sz x).bind fun xs=>(kQ σ e.sz d (xs.take n)).map (ah.int .i64 ((xs.take n).length:Int), ·)
 | _,_,_=>none
theorem Yts {P:Program} {nm:Nat} {t u:TypeId} {d:ah}:fF P σ nm .copy [t,u] [d,x]=(bU P t).bind fun T=>(bU P u).bind fun U=>Hb σ d x T.kind T.elem U.kind:=by
 simp only [fF];congr
theorem Ycd {l:fj} {d:ah}:Hb σ d x .slice (some l) .slice=(kW d).bind fun n=>(fp σ l.sz x).bind fun xs=>(kQ σ l.sz d (xs.take n)).map (ah.int .i64 ((xs.take n).length:Int), ·):=(Eq.refl _).trans rfl
theorem Yee:kW .aW=some 0:=(Eq.refl _).trans rfl
theorem Yrz {b o n s:Nat}:kW (.os b o n s)=some n:=(Eq.refl _).trans rfl
theorem Ysr {b o n c s:Nat}:kW (.oc b o n c s)=some n:=(Eq.refl _).trans rfl
theorem Yue {s:Nat} {es:List ah}:kW (.ps s es)=some es.length:=(Eq.refl _).trans rfl
def nH (sz:Nat) (xs:List ah):Prop:=∀ x∈xs,x.cells.length=sz∧x.cells.all ah.cT=true
open Classical in
noncomputable def vK (σ:ai) (sz b off n yh:Nat) (xs:List ah):Option bO→Option ai
 | some (.row es fz)=>if yh=sz∧0<sz∧fz≤off∧xs.length≤n∧off+n≤es.length∧nH sz xs then some (cr σ b (.row (cH es off xs) fz)) else none
 | _=>none
theorem Uy {sz:Nat} {xs:List ah}:xs.all (fun x=>x.cells.length==sz&&x.cells.all ah.cT)=true↔nH sz xs:=by simp [nH]
theorem ZY {sz b off n s:Nat} {xs:List ah}:kQ σ sz (.os b off n s) xs=vK σ sz b off n s xs (bP σ b):=by
 simp only [kQ,vK,← Uy];cases bP σ b with | none=>rfl | some x=>cases x<;>rfl
theorem ZN {sz b off n c s:Nat} {xs:List ah}:kQ σ sz (.oc b off n c s) xs=vK σ sz b off n s xs (bP σ b):=by
 simp only [kQ,vK,← Uy];cases bP σ b with | none=>rfl | some x=>cases x<;>rfl
open Classical in
theorem Ydm {sz b off n s fz:Nat} {xs es:List ah}:vK σ sz b off n s xs (some (.row es fz))=if s=sz∧0<sz∧fz≤off∧xs.length≤n∧off+n≤es.length∧nH sz xs then some (cr σ b (.row (cH es off xs) fz)) else none:=(Eq.refl _).trans rfl
def wu (σ:ai) (nm:Nat) (e:fj) (b off n sz:Nat) (xs:List ah):Option bO→Option (ah×ai)
 | some (.row es fz)=>if sz=e.sz∧fz≤off+n∧off+n≤es.length∧n+xs.length≤cV e.bytes then
         some (.os nm 0 (n+xs.length) sz,cr (σ.set b none) nm (.row ((es.drop off).take n++xs) (fz - off)))
    else none
 | _=>none
def eW (e:fj) (xs:List ah):Prop:=(∀ x∈xs,x.cells.length=e.sz∧x.cells.all ah.cT=true)∧0<e.sz∧e.bytes≤65536∧e.zero.length=e.sz
theorem Mf {e:fj} {xs:List ah}:(xs.all (fun x=>x.cells.length==e.sz&&x.cells.all ah.cT)=true∧0<e.sz∧e.bytes≤65536∧e.zero.length=e.sz)↔eW e xs:=by
 simp [eW]
open Classical in
theorem Ng {nm:Nat} {l:fj} {xs:List ah}:eO σ nm l .aW xs=if eW l xs then (if xs.length=0 then some (.aW,σ) else if xs.length≤cV l.bytes then some (.os nm 0 xs.length l.sz,cr σ nm (.row xs 0)) else none) else none:=by
 unfold eO mH;simp only [← Mf]
open Classical in
theorem K2 {nm:Nat} {l:fj} {xs:List ah} {b off n s:Nat}:eO σ nm l (.os b off n s) xs=if eW l xs then wu σ nm l b off n s xs (bP σ b) else none:=by
 unfold eO mH;simp only [← Mf];split
 ·simp only [wu];cases bP σ b with | none=>rfl | some x=>cases x<;>rfl
 ·rfl
theorem Lr {nm:Nat} {l:fj} {b off n s fz:Nat} {xs es:List ah}:wu σ nm l b off n s xs (some (.row es fz))=if s=l.sz∧fz≤off+n∧off+n≤es.length∧n+xs.length≤cV l.bytes then
     some (.os nm 0 (n+xs.length) s,cr (σ.set b none) nm (.row ((es.drop off).take n++xs) (fz - off))) else none:=(Eq.refl _).trans rfl
def ub (σ:ai) (nm b off n c sz Kb:Nat) (xs:List ah):Option bO→Option (ah×ai)
 | some (.row es fz)=>if off+n≤es.length then
    if n+xs.length≤c then (if fz≤off+n∧off+n+xs.length≤es.length then some (.oc b off (n+xs.length) c sz,cr σ b (.row (cH es (off+n) xs) fz)) else none)
    else if n+xs.length≤cV Kb then some (.os nm 0 (n+xs.length) sz,cr σ nm (.row ((es.drop off).take n++xs) 0)) else none
   else none
 | _=>none
open Classical in
theorem Yyn {nm:Nat} {l:fj} {xs:List ah} {b off n c s:Nat}:eO σ nm l (.oc b off n c s) xs=if eW l xs∧s=l.sz then ub σ nm b off n c s l.bytes xs (bP σ b) else none:=by
 unfold eO n8;simp only [← Mf];by_cases h1:(xs.all (fun x=>x.cells.length==l.sz&&x.cells.all ah.cT)=true∧0<l.sz∧l.bytes≤65536∧l.zero.length=l.sz)
 ·simp only [h1,and_true,true_and,if_true];by_cases h2:s=l.sz
  ·simp only [h2,true_and,if_true,ub];cases bP σ b with | none=>rfl | some x=>cases x<;>rfl
  ·simp only [h2,false_and,if_false];cases bP σ b with | none=>rfl | some x=>cases x<;>rfl
 ·rw [if_neg h1,if_neg (fun h=>h1 h.1)]
theorem Zs6 {nm b off n c s Kb fz:Nat} {xs es:List ah}:ub σ nm b off n c s Kb xs (some (.row es fz))=if off+n≤es.length then
    if n+xs.length≤c then (if fz≤off+n∧off+n+xs.length≤es.length then some (.oc b off (n+xs.length) c s,cr σ b (.row (cH es (off+n) xs) fz)) else none)
    else if n+xs.length≤cV Kb then some (.os nm 0 (n+xs.length) s,cr σ nm (.row ((es.drop off).take n++xs) 0)) else none
   else none:=(Eq.refl _).trans rfl
theorem Yz9 {P:Program} {nm:Nat} {ts:List TypeId} {rest:List ah}:fF P σ nm .max ts (x :: rest)=(ga (fun a b=>if a<b then b else a) x rest).map (·,σ):=(Eq.refl _).trans rfl
theorem Y2 {P:Program} {nm:Nat} {ts:List TypeId} {rest:List ah}:fF P σ nm .min ts (x :: rest)=(ga (fun a b=>if b<a then b else a) x rest).map (·,σ):=(Eq.refl _).trans rfl
theorem Yz6 {f:Int→Int→Int}:ga f x []=some x:=by cases x<;>rfl
theorem Yqu {f:Int→Int→Int} {k k':IntKind} {a b:Int} {rest:List ah}:ga f (.int k a) (.int k' b :: rest)=ga f (.int k (f a b)) rest:=(Eq.refl _).trans rfl
theorem Zh {s:ByteArray} {lo hi:Option ah}:jo ⟨⟨sz,ag,bs,z, .str⟩,fl,e,kt⟩ (.str s) lo hi none=(xS s.size hi).bind fun h=>(sv h lo).bind fun l=>some (.str (s.extract l h)):=(Eq.refl _).trans rfl
theorem Zx {l0:fj} {s:Nat} {es:List ah} {lo hi:Option ah}:jo ⟨⟨sz,ag,bs,z, .slice⟩,fl,some l0,kt⟩ (.ps s es) lo hi none=if l0.sz=s then (xS es.length hi).bind fun h=>(sv h lo).bind fun l=>some (.ps s ((es.drop l).take (h - l))) else none:=by
 simp [jo,j9.kind,j9.vY]
theorem ZU {l0:fj} {b off n s:Nat} {lo hi:Option ah}:jo ⟨⟨sz,ag,bs,z, .slice⟩,fl,some l0,kt⟩ (.os b off n s) lo hi none=if l0.sz=s then (xS n hi).bind fun h=>(sv h lo).bind fun l=>some (.os b (off+l) (h - l) s) else none:=by
 simp [jo,j9.kind,j9.vY]
theorem Zv {l0:fj} {b off n c s:Nat} {lo hi:Option ah}:jo ⟨⟨sz,ag,bs,z, .slice⟩,fl,some l0,kt⟩ (.oc b off n c s) lo hi none=if l0.sz=s then (D7 n c hi).bind fun h=>(sv h lo).bind fun l=>some (.oc b (off+l) (h - l) (c - l) s) else none:=by
 simp [jo,j9.kind,j9.vY]
theorem Zb {l0:fj} {b off n c s:Nat} {lo:Option ah} {k k':IntKind} {hi mx:Int}:jo ⟨⟨sz,ag,bs,z, .slice⟩,fl,some l0,kt⟩ (.oc b off n c s) lo (some (.int k hi)) (some (.int k' mx))=if l0.sz=s then (if (0:Int)≤mx∧mx≤c then (if (0:Int)≤hi∧hi≤mx.toNat then (sv hi.toNat lo).bind fun l=>some (.oc b (off+l) (hi.toNat - l) (mx.toNat - l) s) else none) else none) else none:=by
 have e:∀ (n:Nat) (k:IntKind) (i:Int),j0 0 n (.int k i)=if (0:Int)≤i∧i≤n then some i.toNat else none:=fun n k i=>by simp [j0]
 simp only [jo,j9.kind,j9.vY,bM,true_and,aH];by_cases h1:l0.sz=s
 ·rw [if_pos h1,if_pos h1,e];by_cases h2:(0:Int)≤mx∧mx≤c
  ·rw [if_pos h2,if_pos h2,fb,fb,e];by_cases h3:(0:Int)≤hi∧hi≤mx.toNat
   ·rw [if_pos h3,if_pos h3,fb]
   ·rw [if_neg h3,if_neg h3];rfl
  ·rw [if_neg h2,if_neg h2];rfl
 ·rw [if_neg h1,if_neg h1]
theorem Ym1 {n c:Nat}:D7 n c none=some n:=(Eq.refl _).trans rfl
theorem Yoq {n c:Nat} {k:IntKind} {i:Int}:D7 n c (some (.int k i))=if (0:Int)≤i∧i≤c then some i.toNat else none:=by simp [D7,j0]
theorem Yrq {l0:fj} {lo hi:Option ah}:jo ⟨⟨sz,ag,bs,z, .slice⟩,fl,some l0,kt⟩ .aW lo hi none=(xS 0 hi).bind fun h=>(sv h lo).bind fun _=>some .aW:=by
 simp [jo,j9.kind]
theorem Ysd {n:Nat}:xS n none=some n:=(Eq.refl _).trans rfl
theorem Yqs {n:Nat} {k:IntKind} {i:Int}:xS n (some (.int k i))=if (0:Int)≤i∧i≤n then some i.toNat else none:=by simp [xS,j0]
theorem Yr4 {n:Nat}:sv n none=some 0:=(Eq.refl _).trans rfl
theorem Yua {n:Nat} {k:IntKind} {i:Int}:sv n (some (.int k i))=if (0:Int)≤i∧i≤n then some i.toNat else none:=by simp [sv,j0]
theorem Yh4 {ρ:Operand→ah} {parts:List (Nat×Operand)}:o_ ⟨⟨sz,ag,bs,z, .struct⟩,fl,e,kt⟩ ρ parts=if fl.all (·.2.isSome)=true then (kN fl ρ z parts).map .agg else none:=(Eq.refl _).trans rfl
theorem Ynd {l0:fj} {m:Nat} {ρ:Operand→ah} {parts:List (Nat×Operand)}:o_ ⟨⟨sz,ag,bs,z, .array m⟩,fl,some l0,kt⟩ ρ parts=(kN ((List.range m).map fun i=>(i*l0.sz,some l0)) ρ z parts).map .agg:=(Eq.refl _).trans rfl
def yZ (pF:List (Nat×Option fj)) (ρ:Operand→ah) (cs:List ah) (v:ah) (rest:List (Nat×Operand)):Option (Nat×Option fj)→Option (List ah)
 | some (off,some l)=>if v.cells.length=l.sz∧off+l.sz≤cs.length∧v.cells.all ah.cT=true then kN pF ρ (cH cs off v.cells) rest else none
 | _=>none
theorem Ypm {ρ:Operand→ah} {cs:List ah}:kN fl ρ cs []=some cs:=(Eq.refl _).trans rfl
theorem Yf9 {ρ:Operand→ah} {cs:List ah} {i:Nat} {o:Operand} {rest:List (Nat×Operand)}:kN fl ρ cs ((i,o) :: rest)=yZ fl ρ cs (ρ o) rest fl[i]?:=by
 simp only [kN,yZ];rcases fl[i]? with _ | ⟨off,_ | l⟩<;>rfl
theorem Ybn {ρ:Operand→ah} {cs:List ah} {v:ah} {rest:List (Nat×Operand)} {off:Nat} {l:fj}:yZ fl ρ cs v rest (some (off,some l))=if v.cells.length=l.sz∧off+l.sz≤cs.length∧v.cells.all ah.cT=true then kN fl ρ (cH cs off v.cells) rest else none:=(Eq.refl _).trans rfl
theorem Yuk {l0:fj} {ρ:Operand→ah} {k:Nat}:qu l0 ρ k []=some []:=(Eq.refl _).trans rfl
theorem Ynn {l0:fj} {ρ:Operand→ah} {k i:Nat} {o:Operand} {rest:List (Nat×Operand)}:qu l0 ρ k ((i,o) :: rest)=if i=k∧(ρ o).cells.length=l0.sz∧cX (ρ o)=l0.ag∧(ρ o).cells.all ah.cT=true then (qu l0 ρ (k+1) rest).map (ρ o :: ·) else none:=(Eq.refl _).trans rfl
theorem Ywp {nm:Nat} {l0:fj} {l c:Int}:kh σ nm ⟨⟨sz,ag,bs,z, .slice⟩,fl,some l0,kt⟩ (.int .i64 l) (.int .i64 c)=if 0≤l∧l≤c∧c≤1000000000∧l0.bytes≤65536∧0<l0.sz∧l0.zero.length=l0.sz then some (.os nm 0 l.toNat l0.sz,cr σ nm (.row (List.replicate l.toNat (zeroV l0)) 0)) else none:=(Eq.refl _).trans rfl
theorem Yx4 {s b:Nat} {z:List ah} {k:KA}:zeroV ⟨s,true,b,z,k⟩ = .agg z:=(Eq.refl _).trans rfl
theorem Yx2 {s b:Nat} {c:ah} {z:List ah} {k:KA}:zeroV ⟨s,false,b,c :: z,k⟩=c:=(Eq.refl _).trans rfl
def Qi (t u:TypeId) (x:ah) (ok:Bool) (l:fj):KA→Option ah
 | .iface=>none
 | _=>if t=u then some (if ok then .dT [x, .bool true] else x) else if ok then some (.dT [zeroV l, .bool false]) else none
theorem Yn2 {P:Program} {u t:TypeId} {ok:Bool}:jy P (.iface t x) u ok=(bU P u).bind fun T=>Qi t u x ok T.lay T.kind:=by
 simp only [jy];cases bU P u with
 | none=>rfl
 | some T=>simp only [fb,Qi];cases T.kind<;>rfl
def Qa (k:ah) (ok:Bool) (l:fj):Option bO→Option ah
 | some (.map ks vs _)=>if ks.all (sameKind k) then some (fv ks vs (zeroV l) k ok) else none
 | _=>none
theorem Yxx {l0:fj} {k:ah} {ok:Bool} {σ:ai}:lR σ ⟨⟨sz,ag,bs,z, .map⟩,fl,some l0,kt⟩ .cM k ok=if nS ⟨⟨sz,ag,bs,z, .map⟩,fl,some l0,kt⟩ k=true then some (fv [] [] (zeroV l0) k ok) else none:=(Eq.refl _).trans rfl
theorem Zn {l0:fj} {k:ah} {ok:Bool} {σ:ai} {ks vs:List ah}:lR σ ⟨⟨sz,ag,bs,z, .map⟩,fl,some l0,kt⟩ (.pm ks vs) k ok=if nS ⟨⟨sz,ag,bs,z, .map⟩,fl,some l0,kt⟩ k=true then (if ks.all (sameKind k)=true then some (fv ks vs (zeroV l0) k ok) else none) else none:=(Eq.refl _).trans rfl
theorem Yx9 {l0:fj} {k:ah} {ok:Bool} {σ:ai} {b:Nat}:lR σ ⟨⟨sz,ag,bs,z, .map⟩,fl,some l0,kt⟩ (.map b) k ok=if nS ⟨⟨sz,ag,bs,z, .map⟩,fl,some l0,kt⟩ k=true then Qa k ok l0 (bP σ b) else none:=by
 simp only [lR,Qa,j9.kind];split
 ·cases bP σ b with | none=>rfl | some x=>cases x<;>rfl
 ·rfl
theorem Ykh {k:ah} {ok:Bool} {l:fj} {ks vs:List ah} {f:Bool}:Qa k ok l (some (.map ks vs f))=if ks.all (sameKind k)=true then some (fv ks vs (zeroV l) k ok) else none:=(Eq.refl _).trans rfl
theorem Yv {L:fj} {s b:Nat} {a:Bool} {z:List ah} {k k':IntKind} {n:Int}:nS ⟨L,fl,e,some ⟨s,a,b,z, .int k'⟩⟩ (.int k n)=(k==k'):=(Eq.refl _).trans rfl
theorem Y8 {L:fj} {s b:Nat} {a:Bool} {z:List ah} {y:ByteArray}:nS ⟨L,fl,e,some ⟨s,a,b,z, .str⟩⟩ (.str y)=true:=(Eq.refl _).trans rfl
theorem Ze {k k':IntKind} {a b:Int}:sameKind (.int k a) (.int k' b)=(k==k'):=(Eq.refl _).trans rfl
theorem Ywi {a b:ByteArray}:sameKind (.str a) (.str b)=true:=(Eq.refl _).trans rfl
def KJ (σ:ai) (b:Nat) (T:j9) (k v:ah) (l:fj):Option bO→Option ai
 | some (.map ks vs false)=>if nS T k&&ks.all (sameKind k)&&decide (v.cells.length=l.sz) then some (cr σ b (.map (jn ks vs k v).1 (jn ks vs k v).2 false)) else none
 | _=>none
theorem YS {l0:fj} {k v:ah} {σ:ai} {b:Nat}:gY σ ⟨⟨sz,ag,bs,z, .map⟩,fl,some l0,kt⟩ (.map b) k v=KJ σ b ⟨⟨sz,ag,bs,z, .map⟩,fl,some l0,kt⟩ k v l0 (bP σ b):=by
 simp only [gY,KJ,j9.kind];rcases bP σ b with _ | x
 ·rfl
 ·cases x<;>rfl
theorem Yl3 {σ:ai} {b:Nat} {T:j9} {k v:ah} {l:fj} {ks vs:List ah}:KJ σ b T k v l (some (.map ks vs false))=if nS T k=true∧ks.all (sameKind k)=true∧v.cells.length=l.sz then some (cr σ b (.map (jn ks vs k v).1 (jn ks vs k v).2 false)) else none:=by
 simp only [KJ,aB,decide_eq_true_eq,and_assoc]
end
section
variable {P:Program} {σ:ai} {nm:Nat} {ρ:Operand→ah} {t:TypeId} {x y z:Operand}
theorem Yz3:dt P σ nm ρ (.move x)=some (ρ x,σ):=(Eq.refl _).trans rfl
theorem Ym8:dt P σ nm ρ (.assign x)=some (ρ x,σ):=(Eq.refl _).trans rfl
theorem Yyg:dt P σ nm ρ (.pick x y z)=(pN (ρ x) (ρ y) (ρ z)).map (·,σ):=(Eq.refl _).trans rfl
theorem Ysw:dt P σ nm ρ (.alloc t)=(aF P t).bind fun l=>some (.ptr nm 0,cr σ nm (.var l.zero)):=(Eq.refl _).trans rfl
theorem Zl:dt P σ nm ρ (.box t x)=(aF P t).bind fun l=>if (ρ x).cells.length=l.sz∧(ρ x).cells.all ah.cT=true then some (.ptr nm 0,cr σ nm (.var (ρ x).cells)) else none:=(Eq.refl _).trans rfl
theorem Yta {p:Array (Nat×Operand)}:dt P σ nm ρ (.build t p)=(bU P t).bind fun T=>(o_ T ρ p.toList).map (·,σ):=(Eq.refl _).trans rfl
theorem Zst {n:Nat} {p:Array (Nat×Operand)}:dt P σ nm ρ (.buildSlice t n p)=(bU P t).bind fun T=>T.elem.bind fun e=>(qu e ρ 0 p.toList).bind fun es =>
   if es.length=n∧T.kind = .slice∧n*e.sz≤16777216∧e.zero.length=e.sz∧0<e.sz then some (.os nm 0 n e.sz,cr σ nm (.row es 0)) else none:=(Eq.refl _).trans rfl
theorem Y7:dt P σ nm ρ (.load t x)=(aF P t).bind fun l=>(jv σ l (ρ x)).map (·,σ):=(Eq.refl _).trans rfl
theorem Ytx:dt P σ nm ρ (.store t x y)=(aF P t).bind fun l=>(mS σ l (ρ x) (ρ y)).map (.undef, ·):=(Eq.refl _).trans rfl
def zK (σ:ai):ah→Option (ah×ai)
 | .ptr b o=>some (.ptr b o,σ)
 | .rp b i f=>some (.rp b i f,σ)
 | .pp cs=>some (.pp cs,σ)
 | .fn f a c=>some (.fn f a c,σ)
 | _=>none
theorem ZQ:dt P σ nm ρ (.nilCheck x)=zK σ (ρ x):=by simp only [dt];cases ρ x<;>rfl
theorem Yzv {b o:Nat}:zK σ (.ptr b o)=some (.ptr b o,σ):=(Eq.refl _).trans rfl
theorem Z2 {b i f:Nat}:zK σ (.rp b i f)=some (.rp b i f,σ):=(Eq.refl _).trans rfl
theorem ZK {cs:List ah}:zK σ (.pp cs)=some (.pp cs,σ):=(Eq.refl _).trans rfl
theorem ZE {f:FuncId} {a c:List ah}:zK σ (.fn f a c)=some (.fn f a c,σ):=(Eq.refl _).trans rfl
theorem Yx7 {i:Nat}:kC (.tmp i)=false:=(Eq.refl _).trans rfl
theorem Yzt {k:IntKind} {n:Int}:kC (.const (.int k n))=false:=(Eq.refl _).trans rfl
theorem Ysi {b:Bool}:kC (.const (.bool b))=false:=(Eq.refl _).trans rfl
theorem Y3 {s:ByteArray}:kC (.const (.string s))=false:=(Eq.refl _).trans rfl
theorem Yk7:kC (.const (.pointer none))=false:=(Eq.refl _).trans rfl
theorem Yih:kC (.const (.map none))=false:=(Eq.refl _).trans rfl
theorem Yna:kC (.const .nilFunc)=false:=(Eq.refl _).trans rfl
theorem Yp5:kC (.const .nilIface)=false:=(Eq.refl _).trans rfl
theorem Yy3 {l:Array Value}:kC (.const (.agg l))=false:=(Eq.refl _).trans rfl
theorem Yw1 {a:Addr}:kC (.const (.pointer (some a)))=false:=(Eq.refl _).trans rfl
theorem Ynz {t:TypeId} {v:Value}:kC (.const (.iface t v))=false:=(Eq.refl _).trans rfl
theorem Ytq {g:Nat}:kC (.global g)=false:=(Eq.refl _).trans rfl
theorem Ytb:kC (.const (.slice none 0 0))=true:=(Eq.refl _).trans rfl
theorem Zs {op:BinOp} {x y:ah}:yT P op t x y false=rR P op t x y:=(Eq.refl _).trans rfl
theorem YI {op:BinOp} {x y:ah}:yT P op t x y true=vI P op t x:=(Eq.refl _).trans rfl
def zL (x:ah) (neg:Bool):Option KA→Option ah
 | some .slice=>tn neg x
 | _=>none
theorem Yzi {x:ah}:vI P .eql t x=zL x false (ja P t):=by
 simp only [vI,zL];cases ja P t with | none=>rfl | some k=>cases k<;>rfl
theorem Yz2 {x:ah}:vI P .neq t x=zL x true (ja P t):=by
 simp only [vI,zL];cases ja P t with | none=>rfl | some k=>cases k<;>rfl
theorem Yks {x:ah} {neg:Bool}:zL x neg (some .slice)=tn neg x:=(Eq.refl _).trans rfl
theorem Yuw {neg:Bool}:tn neg .aW=some .iH:=(Eq.refl _).trans rfl
theorem Zu {neg:Bool} {s:Nat} {es:List ah}:tn neg (.ps s es)=some (if es.length=0 then .iH else .bool neg):=(Eq.refl _).trans rfl
theorem Zi {neg:Bool} {b o n s:Nat}:tn neg (.os b o n s)=some (if n=0 then .iH else .bool neg):=(Eq.refl _).trans rfl
theorem ZL {neg:Bool} {b o n c s:Nat}:tn neg (.oc b o n c s)=some (if n=0 then .iH else .bool neg):=(Eq.refl _).trans rfl
theorem ZM {op:BinOp} {u:TypeId}:dt P σ nm ρ (.binOp op t x y u)=(yT P op t (ρ x) (ρ y) (kC y)).map (·,σ):=(Eq.refl _).trans rfl
theorem N4 {op:UnOp}:dt P σ nm ρ (.unOp op t x)=(F6 op (ρ x)).map (·,σ):=(Eq.refl _).trans rfl
theorem Yhk {u:TypeId}:dt P σ nm ρ (.convert t u x)=(pD P t u (ρ x)).map (·,σ):=(Eq.refl _).trans rfl
def mkIf (t:TypeId) (v:ah) (σ:ai):KA→Option (ah×ai)
 | .iface=>none
 | _=>some (.iface t v,σ)
theorem Ys6:dt P σ nm ρ (.makeInterface t x)=(ja P t).bind (mkIf t (ρ x) σ):=by
 simp only [dt];cases ja P t with | none=>rfl | some K=>cases K<;>rfl
theorem Zxa {v:ah}:mkIf t v σ .struct=some (.iface t v,σ):=(Eq.refl _).trans rfl
theorem Ym2 {v:ah}:mkIf t v σ .ptr=some (.iface t v,σ):=(Eq.refl _).trans rfl
theorem Yo7 {v:ah}:mkIf t v σ .map=some (.iface t v,σ):=(Eq.refl _).trans rfl
theorem Ylk {v:ah}:mkIf t v σ .str=some (.iface t v,σ):=(Eq.refl _).trans rfl
theorem Ymy {v:ah} {k:IntKind}:mkIf t v σ (.int k)=some (.iface t v,σ):=(Eq.refl _).trans rfl
theorem Yyj {f:FuncId} {a b:Array Operand}:dt P σ nm ρ (.makeFunc (.func f) a b)=some (.fn f (a.toList.map ρ) (b.toList.map ρ),σ):=(Eq.refl _).trans rfl
theorem ZV:dt P σ nm ρ (.makeMap t none)=some (.map nm,cr σ nm (.map [] [] false)):=(Eq.refl _).trans rfl
theorem Zuy:dt P σ nm ρ (.makeSlice t x y)=(bU P t).bind fun T=>kh σ nm T (ρ x) (ρ y):=(Eq.refl _).trans rfl
theorem Yr7 {a b c:Option Operand}:dt P σ nm ρ (.slice t x a b c)=(bU P t).bind fun T=>(jo T (ρ x) (a.map ρ) (b.map ρ) (c.map ρ)).map (·,σ):=(Eq.refl _).trans rfl
theorem Zv9 {i:Nat}:dt P σ nm ρ (.fieldAddr t x i)=(bU P t).bind fun T=>(kc T (ρ x) i).map (·,σ):=(Eq.refl _).trans rfl
theorem Yvj {i:Nat}:dt P σ nm ρ (.field t x i)=(bU P t).bind fun T=>(qd T (ρ x) i).map (·,σ):=(Eq.refl _).trans rfl
theorem Zx7:dt P σ nm ρ (.indexAddr t x y)=(bU P t).bind fun T=>(fQ T (ρ x) (ρ y)).map (·,σ):=(Eq.refl _).trans rfl
theorem Yud:dt P σ nm ρ (.index t x y)=(bU P t).bind fun T=>(qk T (ρ x) (ρ y)).map (·,σ):=(Eq.refl _).trans rfl
theorem Yp2 {ok:Bool}:dt P σ nm ρ (.lookup t x y ok)=(bU P t).bind fun T=>(lR σ T (ρ x) (ρ y) ok).map (·,σ):=(Eq.refl _).trans rfl
theorem Yor:dt P σ nm ρ (.insert t x y z)=(bU P t).bind fun T=>(gY σ T (ρ x) (ρ y) (ρ z)).map (.undef, ·):=(Eq.refl _).trans rfl
theorem Zv0:dt P σ nm ρ (.mapUpdate t x y z)=(bU P t).bind fun T=>(gY σ T (ρ x) (ρ y) (ρ z)).map (.undef, ·):=(Eq.refl _).trans rfl
def wV (σ:ai) (nm:Nat):KA→ah→Option (ah×ai)
 | .str, .str s=>some (.it nm,cr σ nm (.iter s 0))
 | .map, .pm ks vs=>some (.it nm,cr σ nm (.lL ks vs []))
 | _,_=>none
theorem Yvk:dt P σ nm ρ (.range t x)=(bU P t).bind fun T=>wV σ nm T.kind (ρ x):=by
 simp only [dt];cases bU P t with
 | none=>rfl
 | some T=>simp only [fb];cases T.kind<;>(try rfl)<;>cases ρ x<;>rfl
theorem Yc7 {s:ByteArray}:wV σ nm .str (.str s)=some (.it nm,cr σ nm (.iter s 0)):=(Eq.refl _).trans rfl
theorem Yjz {ks vs:List ah}:wV σ nm .map (.pm ks vs)=some (.it nm,cr σ nm (.lL ks vs [])):=(Eq.refl _).trans rfl
theorem Yt3:dt P σ nm ρ (.entry x)=pc σ (ρ x):=(Eq.refl _).trans rfl
def Ke (σ:ai):Option bO→Option (ah×ai)
 | some (.lL ks vs seen)=>match seen.getLast? with
  | some i=>some (.dT [ks.getD i .undef,vs.getD i .undef],σ)
  | none=>none
 | _=>none
theorem ZB {b:Nat}:pc σ (.it b)=Ke σ (bP σ b):=by
 simp only [pc,Ke];cases bP σ b with | none=>rfl | some x=>cases x<;>rfl
theorem Ynp {ks vs:List ah} {seen:List Nat} {i:Nat}:Ke σ (some (.lL ks vs (seen++[i])))=some (.dT [ks.getD i .undef,vs.getD i .undef],σ):=by
 simp [Ke]
theorem Yzp:dt P σ nm ρ (.next x true)=nQ σ (ρ x):=(Eq.refl _).trans rfl
theorem Ylg {u v:TypeId} {ok:Bool}:dt P σ nm ρ (.typeAssert x u v ok)=(jy P (ρ x) v ok).map (·,σ):=(Eq.refl _).trans rfl
def N6 (σ:ai) (i:Nat):ah→Option (ah×ai)
 | .dT vs=>(vs[i]?).map (·,σ)
 | _=>none
theorem Ygf {i:Nat}:dt P σ nm ρ (.extract x i)=N6 σ i (ρ x):=by simp only [dt,N6];cases ρ x<;>rfl
theorem Ywa {i:Nat} {vs:List ah}:N6 σ i (.dT vs)=(vs[i]?).map (·,σ):=(Eq.refl _).trans rfl
theorem Yf0 {b:Builtin} {args:Array Operand} {ts:Array TypeId}:dt P σ nm ρ (.call ⟨.builtin b,args,ts⟩)=fF P σ nm b ts.toList (args.toList.map ρ):=(Eq.refl _).trans rfl
theorem Yis:ja P t=(aF P t).map (·.key):=(Eq.refl _).trans rfl
end
end Go.dm
