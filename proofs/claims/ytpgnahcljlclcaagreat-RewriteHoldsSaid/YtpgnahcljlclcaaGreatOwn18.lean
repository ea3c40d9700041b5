/- Part 18 of my own framework and of the walks of functions: AbsS. -/
import Derived.Test.YtpgnahcljlclcaaGreatOwn17
set_option linter.unusedVariables false
set_option linter.unusedSectionVars false
set_option linter.unusedSimpArgs false
namespace Go.Abs
open Go
section
variable {P:Program} {lo:Ctx} {Q:AExit→St→Prop} {n:Nat} {k:List KI} {tm:List AVal} {σ:Store} {all:Array Oper} {l:List Oper}
theorem Yti {e:AExit}:vcK P lo Q (n+1) [] e tm σ=Q e ⟨tm,σ⟩:=(Eq.refl _).trans rfl
theorem Yst:vcK P lo Q (n+1) (.code .skip :: k) .normal tm σ=vcK P lo Q n k .normal tm σ:=(Eq.refl _).trans rfl
theorem Ytg {a b:Code}:vcK P lo Q (n+1) (.code (.seq a b) :: k) .normal tm σ=vcK P lo Q n (.code a :: .code b :: k) .normal tm σ:=(Eq.refl _).trans rfl
theorem Yq2 {c:Operand} {a b:Code}:vcK P lo Q (n+1) (.code (.cond c a b) :: k) .normal tm σ=goC P lo Q n (ev tm c) a b k tm σ:=(Eq.refl _).trans rfl
theorem Ymf {id:Nat} {c:Code}:vcK P lo Q (n+1) (.code (.block id c) :: k) .normal tm σ=vcK P lo Q n (.code c :: .blk id :: k) .normal tm σ:=(Eq.refl _).trans rfl
theorem Yhb {id:Nat} {ops:Array Oper}:vcK P lo Q (n+1) (.code (.region id ops false) :: k) .normal tm σ=vcK P lo Q n (.ops ops ops.toList :: k) .normal tm σ:=(Eq.refl _).trans rfl
theorem Ynz {id:Nat} {ops:Array Oper}:vcK P lo Q (n+1) (.code (.region id ops true) :: k) .normal tm σ=EvK P lo Q (.code (.region id ops true) :: k) .normal ⟨tm,σ⟩:=(Eq.refl _).trans rfl
theorem Ysh {id:Nat}:vcK P lo Q (n+1) (.code (.exit id) :: k) .normal tm σ=vcK P lo Q n k (.exit id) tm σ:=(Eq.refl _).trans rfl
theorem Yty:vcK P lo Q (n+1) (.code .ret :: k) .normal tm σ=vcK P lo Q n k .ret tm σ:=(Eq.refl _).trans rfl
theorem Yma {c:Code}:vcK P lo Q (n+1) (.code (.scope c) :: k) .normal tm σ=vcK P lo Q n (.code c :: .scp :: k) .normal tm σ:=(Eq.refl _).trans rfl
theorem Yl4 {i:Nat}:vcK P lo Q (n+1) (.code (.label i) :: k) .normal tm σ=vcK P lo Q n k .normal tm σ:=(Eq.refl _).trans rfl
theorem Yp0 {c:Code}:vcK P lo Q (n+1) (.code (.loop c) :: k) .normal tm σ=EvK P lo Q (.code (.loop c) :: k) .normal ⟨tm,σ⟩:=(Eq.refl _).trans rfl
theorem Zsj {f:Operand} {ps:Array Tmp} {a b:Code}:vcK P lo Q (n+1) (.code (.rangeFunc f ps a b) :: k) .normal tm σ=EvK P lo Q (.code (.rangeFunc f ps a b) :: k) .normal ⟨tm,σ⟩:=(Eq.refl _).trans rfl
theorem Yqp {i:Nat}:vcK P lo Q (n+1) (.code (.goto i) :: k) .normal tm σ=vcK P lo Q n k (.goto i) tm σ:=(Eq.refl _).trans rfl
theorem Zsc {c:Code} {i:Nat}:vcK P lo Q (n+1) (.code c :: k) (.exit i) tm σ=vcK P lo Q n k (.exit i) tm σ:=(Eq.refl _).trans rfl
theorem Zs5 {c:Code} {i:Nat}:vcK P lo Q (n+1) (.code c :: k) (.goto i) tm σ=vcK P lo Q n k (.goto i) tm σ:=(Eq.refl _).trans rfl
theorem Zvp {c:Code}:vcK P lo Q (n+1) (.code c :: k) .ret tm σ=vcK P lo Q n k .ret tm σ:=(Eq.refl _).trans rfl
theorem Yai:vcK P lo Q (n+1) (.ops all [] :: k) .normal tm σ=vcK P lo Q n k .normal tm σ:=(Eq.refl _).trans rfl
theorem Zxi {o:Oper}:vcK P lo Q (n+1) (.ops all (o :: l) :: k) .normal tm σ=goG P lo Q n (gdA all tm o) all o l k tm σ:=(Eq.refl _).trans rfl
theorem Zo7 {id:Nat}:vcK P lo Q (n+1) (.blk id :: k) .normal tm σ=vcK P lo Q n k .normal tm σ:=(Eq.refl _).trans rfl
theorem Ybe {id:Nat}:vcK P lo Q (n+1) (.blk id :: k) .ret tm σ=vcK P lo Q n k .ret tm σ:=(Eq.refl _).trans rfl
theorem Zvd {id i:Nat}:vcK P lo Q (n+1) (.blk id :: k) (.goto i) tm σ=vcK P lo Q n k (.goto i) tm σ:=(Eq.refl _).trans rfl
theorem Zwm {id i:Nat}:vcK P lo Q (n+1) (.blk id :: k) (.exit i) tm σ=(if i=id then vcK P lo Q n k .normal tm σ else vcK P lo Q n k (.exit i) tm σ):=(Eq.refl _).trans rfl
theorem Zq0:vcK P lo Q (n+1) (.scp :: k) .normal tm σ=vcK P lo Q n k .normal tm σ:=(Eq.refl _).trans rfl
theorem Zzx:vcK P lo Q (n+1) (.scp :: k) .ret tm σ=vcK P lo Q n k .ret tm σ:=(Eq.refl _).trans rfl
theorem Zwp {i:Nat}:vcK P lo Q (n+1) (.scp :: k) (.exit i) tm σ=vcK P lo Q n k (.exit i) tm σ:=(Eq.refl _).trans rfl
theorem Yqy {a b:Code}:goC P lo Q (n+1) (.bool true) a b k tm σ=vcK P lo Q n (.code a :: k) .normal tm σ:=by simp [goC]
theorem Yme {a b:Code}:goC P lo Q (n+1) (.bool false) a b k tm σ=vcK P lo Q n (.code b :: k) .normal tm σ:=by simp [goC]
theorem Yuz {a b:Code}:goC P lo Q (n+1) .anyb a b k tm σ=(vcK P lo Q n (.code a :: k) .normal tm σ∧vcK P lo Q n (.code b :: k) .normal tm σ):=(Eq.refl _).trans rfl
theorem Ypp {t:Bool} {a b:Code}:goC P lo Q (n+1) (.bool t) a b k tm σ=((t=true→vcK P lo Q n (.code a :: k) .normal tm σ)∧(t=false→vcK P lo Q n (.code b :: k) .normal tm σ)):=(Eq.refl _).trans rfl
theorem Yp5 {o:Oper}:goG P lo Q (n+1) (some true) all o l k tm σ=goO P lo Q n o all l k tm σ:=by simp [goG]
theorem Ymt {o:Oper}:goG P lo Q (n+1) (some false) all o l k tm σ=vcK P lo Q n (.ops all l :: k) .normal (put tm o.dst gone) σ:=by simp [goG]
theorem Yny {o:Oper} {g:Bool}:goG P lo Q (n+1) (some g) all o l k tm σ=((g=true→goO P lo Q n o all l k tm σ)∧(g=false→vcK P lo Q n (.ops all l :: k) .normal (put tm o.dst gone) σ)):=(Eq.refl _).trans rfl
def callI (P:Program) (lo:Ctx) (Q:AExit→St→Prop) (b:Bool) (d:Option Tmp) (f:AVal) (args:List AVal) (all:Array Oper) (l:List Oper) (k:List KI) (tm:List AVal) (σ:Store):Prop :=
 if b=true then CallOr P f args σ (fun r σ'=>EvK P lo Q (.ops all l :: k) .normal ⟨put tm d r,σ'⟩) (fun u σ'=>EvK P lo Q k (.panic u) ⟨tm,σ'⟩)
 else VCall P f args σ fun r σ'=>EvK P lo Q (.ops all l :: k) .normal ⟨put tm d r,σ'⟩
theorem Yru {d:Option Tmp} {f:Operand} {args:Array Operand} {ts:Array TypeId} {t:TypeId} {p:String} {a:Array Edge} {g:Option (Nat×Bool)} :
  goO P lo Q (n+1) ⟨d, .call ⟨.value f,args,ts⟩,t,p,a,g⟩ all l k tm σ=callI P lo Q (hasThr k) d (ev tm f) (args.toList.map (ev tm)) all l k tm σ:=(Eq.refl _).trans rfl
theorem Yul {d:Option Tmp} {f:AVal} {args:List AVal}:callI P lo Q false d f args all l k tm σ=VCall P f args σ fun r σ'=>EvK P lo Q (.ops all l :: k) .normal ⟨put tm d r,σ'⟩:=by simp [callI]
theorem Yqc {d:Option Tmp} {f:AVal} {args:List AVal}:callI P lo Q true d f args all l k tm σ=CallOr P f args σ (fun r σ'=>EvK P lo Q (.ops all l :: k) .normal ⟨put tm d r,σ'⟩) (fun u σ'=>EvK P lo Q k (.panic u) ⟨tm,σ'⟩):=by simp [callI]
theorem Ysa:hasThr []=false:=(Eq.refl _).trans rfl
theorem Yro:hasThr (.thr :: k)=true:=(Eq.refl _).trans rfl
theorem Ykz {c:Code}:hasThr (.code c :: k)=hasThr k:=(Eq.refl _).trans rfl
theorem Yqk {l:List Oper}:hasThr (.ops all l :: k)=hasThr k:=(Eq.refl _).trans rfl
theorem Yrk {i:Nat}:hasThr (.blk i :: k)=hasThr k:=(Eq.refl _).trans rfl
theorem Yqf:hasThr (.scp :: k)=hasThr k:=(Eq.refl _).trans rfl
theorem Yoi {t:TypeId} {cs:List AVal}:pvV (.iface t (.agg cs))=(plainVs cs).map fun l=>.iface t (.agg l.toArray):=(Eq.refl _).trans rfl
theorem Yqn {t:TypeId} {i:IntKind} {m:Int}:pvV (.iface t (.int i m))=some (.iface t (.int i m)):=(Eq.refl _).trans rfl
theorem Yjn:plainVs []=some []:=(Eq.refl _).trans rfl
theorem Ylp {i:IntKind} {m:Int} {r:List AVal}:plainVs (.int i m :: r)=(plainVs r).map (.int i m :: ·):=(Eq.refl _).trans rfl
theorem Yol {u:Value} {s:St}:EvK P lo Q [] (.panic u) s=Q (.panic u) s:=(Eq.refl _).trans rfl
theorem Yna {c:Code} {u:Value} {s:St}:EvK P lo Q (.code c :: k) (.panic u) s=EvK P lo Q k (.panic u) s:=(Eq.refl _).trans rfl
theorem Yri {u:Value} {s:St}:EvK P lo Q (.ops all l :: k) (.panic u) s=EvK P lo Q k (.panic u) s:=(Eq.refl _).trans rfl
theorem Ypj {i:Nat} {u:Value} {s:St}:EvK P lo Q (.blk i :: k) (.panic u) s=EvK P lo Q k (.panic u) s:=(Eq.refl _).trans rfl
theorem Yns {u:Value} {s:St}:EvK P lo Q (.thr :: k) (.panic u) s=EvK P lo Q k (.panic u) s:=(Eq.refl _).trans rfl
theorem Ytd {e:AExit}:vcK P lo Q (n+1) (.thr :: k) e tm σ=vcK P lo Q n k e tm σ:=by cases e<;>simp only [vcK]
end
def isCall:Op→Bool
 | .call ⟨.value _,_,_⟩=>true
 | .panic _=>true
 | .next _ false=>true
 | _=>false
section
variable {P:Program} {lo:Ctx} {Q:AExit→St→Prop} {n:Nat} {k:List KI} {tm:List AVal} {σ:Store} {all:Array Oper} {l:List Oper}
theorem Yoq {r:AVal} {σ':Store} {dst:Option Tmp}:goR P lo Q (n+1) (some (r,σ')) dst all l k tm=vcK P lo Q n (.ops all l :: k) .normal (put tm dst r) σ':=(Eq.refl _).trans rfl
theorem Yc1 {dst:Option Tmp}:goR P lo Q n none dst all l k tm=False:=by cases n<;>rfl
theorem R_if {c:Prop} [Decidable c] {x:Option (AVal×Store)} {dst:Option Tmp}:goR P lo Q n (if c then x else none) dst all l k tm=(c∧goR P lo Q n x dst all l k tm):=by
 by_cases h:c<;>simp [h,Yc1]
theorem Yub {c:Prop} [Decidable c] {x:c→Option (AVal×Store)} {dst:Option Tmp}:goR P lo Q n (if h:c then x h else none) dst all l k tm = ∃ h:c,goR P lo Q n (x h) dst all l k tm:=by
 by_cases h:c<;>simp [h,Yc1]
theorem Zr4 {α β:Type} {c:Prop} [Decidable c] {x:Option α} {f : α→Option β}:(if c then x else none).bind f=if c then x.bind f else none:=by split<;>rfl
theorem Zx3 {α β:Type} {c:Prop} [Decidable c] {x:Option α} {f : α→β}:(if c then x else none).map f=if c then x.map f else none:=by split<;>rfl
theorem Zpx {α β:Type} {c:Prop} [Decidable c] {x:c→Option α} {f : α→Option β}:(if h:c then x h else none).bind f=if h:c then (x h).bind f else none:=by split<;>rfl
theorem Zsq {α β:Type} {c:Prop} [Decidable c] {x:c→Option α} {f : α→β}:(if h:c then x h else none).map f=if h:c then (x h).map f else none:=by split<;>rfl
theorem Yf1 {tm:List AVal} {d:Option Tmp} {op:Op} {t:TypeId} {p:String} {a:Array Edge}:gdA all tm ⟨d,op,t,p,a,none⟩=some true:=(Eq.refl _).trans rfl
def gd2 (want:Bool):Option AVal→Option Bool
 | some (.bool b)=>some (b==want)
 | some (.opq v)=>if isBoolV v then none else some false
 | _=>none
def gd1 (tm:List AVal) (want:Bool):Option Tmp→Option Bool
 | some d=>gd2 want (tm[d]?)
 | none=>none
theorem Yel {tm:List AVal} {d:Option Tmp} {op:Op} {t:TypeId} {p:String} {a:Array Edge} {j:Nat} {want:Bool}:gdA all tm ⟨d,op,t,p,a,some (j,want)⟩=gd1 tm want ((all.toList[j]?).bind (·.dst)):=by
 simp only [gdA,gd1,Array.getElem?_toList]
 cases (all[j]?.bind (·.dst)) with
 | none=>rfl
 | some d =>
  simp only [gd2]
  cases tm[d]? with
  | none=>rfl
  | some v=>cases v<;>rfl
theorem Yet {d:Tmp} {want:Bool}:gd1 tm want (some d)=gd2 want (tm[d]?):=(Eq.refl _).trans rfl
theorem Yhs {want:Bool}:gd2 want (some gone)=some false:=rfl
theorem Ygo {b want:Bool}:gd2 want (some (.bool b))=some (b==want):=(Eq.refl _).trans rfl
theorem Ys0 {t:Tmp}:ev tm (.tmp t)=tm.getD t .undef:=(Eq.refl _).trans rfl
theorem Yef {v:Value}:ev tm (.const v)=ofValue v:=(Eq.refl _).trans rfl
theorem Zz6 {g:Nat}:ev tm (.global g) = .opq (.pointer (some ⟨g,0,none⟩)):=(Eq.refl _).trans rfl
theorem Ymr {f:FuncId}:ev tm (.func f) = .fn f [] []:=(Eq.refl _).trans rfl
theorem Yjh {b:Bool}:ofValue (.bool b) = .bool b:=(Eq.refl _).trans rfl
theorem Yr6 {k:IntKind} {n:Int}:ofValue (.int k n) = .int k n:=(Eq.refl _).trans rfl
theorem Ynl {s:ByteArray}:ofValue (.string s) = .str s:=(Eq.refl _).trans rfl
theorem Yd9:ofValue (.pointer none) = .nilptr:=(Eq.refl _).trans rfl
theorem Ykc:ofValue (.slice none 0 0) = .nils:=(Eq.refl _).trans rfl
theorem Zy2:ofValue (.map none) = .nilmap:=(Eq.refl _).trans rfl
theorem Yfv:ofValue .nilFunc = .nilfn:=(Eq.refl _).trans rfl
theorem Yi2:ofValue .nilIface = .nilif:=(Eq.refl _).trans rfl
theorem Yfw {d:Tmp} {v:AVal}:put tm (some d) v=tm.set d v:=(Eq.refl _).trans rfl
theorem Yei {v:AVal}:put tm none v=tm:=(Eq.refl _).trans rfl
theorem Zzf {cs:List AVal}:(AVal.agg cs).cells=cs:=(Eq.refl _).trans rfl
theorem Zo5 {k:IntKind} {n:Int}:(AVal.int k n).cells=[.int k n]:=(Eq.refl _).trans rfl
theorem Zxe {b:Bool}:(AVal.bool b).cells=[.bool b]:=(Eq.refl _).trans rfl
theorem Zyc {b:ByteArray}:(AVal.str b).cells=[.str b]:=(Eq.refl _).trans rfl
theorem Zpi:AVal.nilptr.cells=[.nilptr]:=(Eq.refl _).trans rfl
theorem Yar {b o:Nat}:(AVal.ptr b o).cells=[.ptr b o]:=(Eq.refl _).trans rfl
theorem Ygs {b i f:Nat}:(AVal.rp b i f).cells=[.rp b i f]:=(Eq.refl _).trans rfl
theorem Ye0 {cs:List AVal}:(AVal.pp cs).cells=[.pp cs]:=(Eq.refl _).trans rfl
theorem Zwu:AVal.nils.cells=[.nils]:=(Eq.refl _).trans rfl
theorem Ye4 {sz:Nat} {es:List AVal}:(AVal.ps sz es).cells=[.ps sz es]:=(Eq.refl _).trans rfl
theorem Ydk {b o m s:Nat}:(AVal.os b o m s).cells=[.os b o m s]:=(Eq.refl _).trans rfl
theorem Ygn {b o m c s:Nat}:(AVal.oc b o m c s).cells=[.oc b o m c s]:=(Eq.refl _).trans rfl
theorem Zs9:AVal.nilfn.cells=[.nilfn]:=(Eq.refl _).trans rfl
theorem Yfd {f:FuncId} {x y:List AVal}:(AVal.fn f x y).cells=[.fn f x y]:=(Eq.refl _).trans rfl
theorem Zy3 {b:Nat}:(AVal.yld b).cells=[.yld b]:=(Eq.refl _).trans rfl
theorem Znn:AVal.nilmap.cells=[.nilmap]:=(Eq.refl _).trans rfl
theorem Zzi {b:Nat}:(AVal.map b).cells=[.map b]:=(Eq.refl _).trans rfl
theorem Yhi {x y:List AVal}:(AVal.pm x y).cells=[.pm x y]:=(Eq.refl _).trans rfl
theorem Zs4:AVal.nilif.cells=[.nilif]:=(Eq.refl _).trans rfl
theorem Zru {t:TypeId} {v:AVal}:(AVal.iface t v).cells=[.iface t v]:=(Eq.refl _).trans rfl
theorem Zr6:AVal.undef.cells=[.undef]:=(Eq.refl _).trans rfl
theorem Yhq {k:IntKind} {n:Int}:(AVal.int k n).isCell=true:=(Eq.refl _).trans rfl
theorem Ycs {b:Bool}:(AVal.bool b).isCell=true:=(Eq.refl _).trans rfl
theorem Yh2 {b:ByteArray}:(AVal.str b).isCell=true:=(Eq.refl _).trans rfl
theorem Zsa:AVal.nilptr.isCell=true:=(Eq.refl _).trans rfl
theorem Ygt {b o:Nat}:(AVal.ptr b o).isCell=true:=(Eq.refl _).trans rfl
theorem Yju {b i f:Nat}:(AVal.rp b i f).isCell=true:=(Eq.refl _).trans rfl
theorem Yn3 {cs:List AVal}:(AVal.pp cs).isCell=true:=(Eq.refl _).trans rfl
theorem Zzp:AVal.nils.isCell=true:=(Eq.refl _).trans rfl
theorem Ymi {sz:Nat} {es:List AVal}:(AVal.ps sz es).isCell=true:=(Eq.refl _).trans rfl
theorem Ykn {b o m s:Nat}:(AVal.os b o m s).isCell=true:=(Eq.refl _).trans rfl
theorem Yj7 {b o m c s:Nat}:(AVal.oc b o m c s).isCell=true:=(Eq.refl _).trans rfl
theorem Zvf:AVal.nilfn.isCell=true:=(Eq.refl _).trans rfl
theorem Yjb {f:FuncId} {x y:List AVal}:(AVal.fn f x y).isCell=true:=(Eq.refl _).trans rfl
theorem Yg1 {b:Nat}:(AVal.yld b).isCell=true:=(Eq.refl _).trans rfl
theorem Zs8:AVal.nilmap.isCell=true:=(Eq.refl _).trans rfl
theorem Yfx {b:Nat}:(AVal.map b).isCell=true:=(Eq.refl _).trans rfl
theorem Yln {x y:List AVal}:(AVal.pm x y).isCell=true:=(Eq.refl _).trans rfl
theorem Zxr:AVal.nilif.isCell=true:=(Eq.refl _).trans rfl
theorem Zxj {t:TypeId} {v:AVal}:(AVal.iface t v).isCell=true:=(Eq.refl _).trans rfl
theorem Yki {cs:List AVal}:isAggA (.agg cs)=true:=(Eq.refl _).trans rfl
theorem Ym8 {k:IntKind} {n:Int}:isAggA (.int k n)=false:=(Eq.refl _).trans rfl
theorem Yi6 {b:Bool}:isAggA (.bool b)=false:=(Eq.refl _).trans rfl
theorem Yjj {b:ByteArray}:isAggA (.str b)=false:=(Eq.refl _).trans rfl
theorem Yqe {sz:Nat} {es:List AVal}:isAggA (.ps sz es)=false:=(Eq.refl _).trans rfl
theorem Yqt {b o m s:Nat}:isAggA (.os b o m s)=false:=(Eq.refl _).trans rfl
theorem Yry {b o m c s:Nat}:isAggA (.oc b o m c s)=false:=(Eq.refl _).trans rfl
theorem Yfi:isAggA .nils=false:=(Eq.refl _).trans rfl
theorem Ymu {b o:Nat}:isAggA (.ptr b o)=false:=(Eq.refl _).trans rfl
theorem Zzo {t:TypeId} {v:AVal}:isAggA (.iface t v)=false:=(Eq.refl _).trans rfl
theorem Yfc {b:Nat}:getS [] b=none:=by simp [getS]
theorem Zzs {x:Option Blk} {σ:Store}:getS (x :: σ) 0=x:=by simp [getS]
theorem Ycg {x:Option Blk} {σ:Store} {b:Nat}:getS (x :: σ) (b+1)=getS σ b:=by simp [getS]
theorem Zmr {y:Blk}:setS [] 0 y=[some y]:=(Eq.refl _).trans rfl
theorem Zmy {b:Nat} {y:Blk}:setS [] (b+1) y=none :: setS [] b y:=by simp [setS,List.replicate_succ]
theorem Yaa {x:Option Blk} {σ:Store} {y:Blk}:setS (x :: σ) 0 y=some y :: σ:=by simp [setS]
theorem Ycw {x:Option Blk} {σ:Store} {b:Nat} {y:Blk}:setS (x :: σ) (b+1) y=x :: setS σ b y:=by
 simp only [setS,List.length_cons,Nat.add_lt_add_iff_right]
 split
 ·simp
 ·simp
def loadV (l:Lay) (off:Nat):Option Blk→Option AVal
 | some (.var cs)=>takeA l (cs.drop off)
 | _=>none
def loadRow (l:Lay) (i f:Nat):Option Blk→Option AVal
 | some (.row es _)=>if i<es.length then takeA l ((es.getD i .undef).cells.drop f) else none
 | _=>none
theorem Ydq {l:Lay} {b off:Nat}:loadA σ l (.ptr b off)=loadV l off (getS σ b):=by
 simp only [loadA,loadV];cases getS σ b with | none=>rfl | some x=>cases x<;>rfl
theorem Yjc {l:Lay} {b i f:Nat}:loadA σ l (.rp b i f)=loadRow l i f (getS σ b):=by
 simp only [loadA,loadRow];cases getS σ b with | none=>rfl | some x=>cases x<;>rfl
theorem Ykw {l:Lay} {cs:List AVal}:loadA σ l (.pp cs)=takeA l cs:=(Eq.refl _).trans rfl
theorem Yaj {l:Lay} {off:Nat} {cs:List AVal}:loadV l off (some (.var cs))=takeA l (cs.drop off):=(Eq.refl _).trans rfl
theorem Zt0 {l:Lay} {i f fz:Nat} {es:List AVal}:loadRow l i f (some (.row es fz))=if i<es.length then takeA l ((es.getD i .undef).cells.drop f) else none:=(Eq.refl _).trans rfl
theorem Yfr {sz b:Nat} {z:List AVal} {key:KA} {cs:List AVal}:takeA ⟨sz,true,b,z,key⟩ cs=if sz≤cs.length then some (.agg (cs.take sz)) else none:=(Eq.refl _).trans rfl
theorem Yg8 {sz b:Nat} {z:List AVal} {key:KA} {c:AVal} {cs:List AVal}:takeA ⟨sz,false,b,z,key⟩ (c :: cs)=some c:=(Eq.refl _).trans rfl
def storeV (sz off:Nat) (v:AVal) (σ:Store) (b:Nat):Option Blk→Option Store
 | some (.var cs)=>if off+sz≤cs.length then some (setS σ b (.var (setMany cs off v.cells))) else none
 | _=>none
def storeRow (sz i f:Nat) (v:AVal) (σ:Store) (b:Nat):Option Blk→Option Store
 | some (.row es fz)=>if fz≤i∧i<es.length∧f+sz≤(es.getD i .undef).cells.length∧0<sz then
   some (setS σ b (.row (es.set i (mkElem (isAggA (es.getD i .undef)) (setMany (es.getD i .undef).cells f v.cells))) fz)) else none
 | _=>none
theorem Yal {l:Lay} {b off:Nat} {v:AVal}:storeA σ l (.ptr b off) v=if v.cells.length=l.sz∧v.cells.all AVal.isCell=true then storeV l.sz off v σ b (getS σ b) else none:=by
 simp only [storeA,storeV];split
 ·cases getS σ b with | none=>rfl | some x=>cases x<;>rfl
 ·rfl
theorem Yhu {l:Lay} {b i f:Nat} {v:AVal}:storeA σ l (.rp b i f) v=if v.cells.length=l.sz∧v.cells.all AVal.isCell=true then storeRow l.sz i f v σ b (getS σ b) else none:=by
 simp only [storeA,storeRow];split
 ·cases getS σ b with | none=>rfl | some x=>cases x<;>rfl
 ·rfl
theorem Zwo {sz off b:Nat} {v:AVal} {cs:List AVal}:storeV sz off v σ b (some (.var cs))=if off+sz≤cs.length then some (setS σ b (.var (setMany cs off v.cells))) else none:=(Eq.refl _).trans rfl
theorem Zqc {sz i f b fz:Nat} {v:AVal} {es:List AVal}:storeRow sz i f v σ b (some (.row es fz))=if fz≤i∧i<es.length∧f+sz≤(es.getD i .undef).cells.length∧0<sz then
   some (setS σ b (.row (es.set i (mkElem (isAggA (es.getD i .undef)) (setMany (es.getD i .undef).cells f v.cells))) fz)) else none:=(Eq.refl _).trans rfl
theorem Zsz {cs:List AVal} {o:Nat}:setMany cs o []=cs:=(Eq.refl _).trans rfl
theorem Zoh {cs vs:List AVal} {o:Nat} {v:AVal}:setMany cs o (v :: vs)=setMany (cs.set o v) (o+1) vs:=(Eq.refl _).trans rfl
theorem Zw0 {cs:List AVal}:mkElem true cs = .agg cs:=(Eq.refl _).trans rfl
theorem Zx7 {c:AVal} {cs:List AVal}:mkElem false (c :: cs)=c:=(Eq.refl _).trans rfl
end
def faddr:AVal→Nat→Option AVal
 | .ptr b o,off=>some (.ptr b (o+off))
 | .rp b i f,off=>some (.rp b i (f+off))
 | .pp cs,off=>some (.pp (cs.drop off))
 | _,_=>none
def fA2 (x:AVal):Option (Nat×Option Lay)→Option AVal
 | some (off,some l)=>if l.sz≠0 then faddr x off else none
 | _=>none
section
variable {sz bs:Nat} {ag:Bool} {z:List AVal} {fl:List (Nat×Option Lay)} {e kt:Option Lay} {x y:AVal} {i:Nat}
theorem Zn6:fieldAddrA ⟨⟨sz,ag,bs,z, .struct⟩,fl,e,kt⟩ x i=fA2 x fl[i]?:=by
 simp only [fieldAddrA,TyA.kind]
 rcases fl[i]? with _ | ⟨off,_ | l⟩
 ·rfl
 ·rfl
 ·simp only [fA2];cases x<;>rfl
theorem Yhh {off:Nat} {l:Lay}:fA2 x (some (off,some l))=if l.sz≠0 then faddr x off else none:=(Eq.refl _).trans rfl
theorem Zzh {b o off:Nat}:faddr (.ptr b o) off=some (.ptr b (o+off)):=(Eq.refl _).trans rfl
theorem Yfo {b i f off:Nat}:faddr (.rp b i f) off=some (.rp b i (f+off)):=(Eq.refl _).trans rfl
theorem Yey {cs:List AVal} {off:Nat}:faddr (.pp cs) off=some (.pp (cs.drop off)):=(Eq.refl _).trans rfl
def fld2 (cs:List AVal):Option (Nat×Option Lay)→Option AVal
 | some (off,some l)=>takeA l (cs.drop off)
 | _=>none
theorem Yc0 {cs:List AVal}:fieldA ⟨⟨sz,ag,bs,z, .struct⟩,fl,e,kt⟩ (.agg cs) i=fld2 cs fl[i]?:=by
 simp only [fieldA,TyA.kind]
 rcases fl[i]? with _ | ⟨off,_ | l⟩<;>rfl
theorem Ybg {cs:List AVal} {off:Nat} {l:Lay}:fld2 cs (some (off,some l))=takeA l (cs.drop off):=(Eq.refl _).trans rfl
theorem Ytv {l:Lay} {b off n s:Nat} {k:IntKind} {i:Int}:indexAddrA ⟨⟨sz,ag,bs,z, .slice⟩,fl,some l,kt⟩ (.os b off n s) (.int k i)=if l.sz=s∧0≤i∧i<n then some (.rp b (off+i.toNat) 0) else none:=by
 simp [indexAddrA,TyA.kind,TyA.esz]
theorem Yv1 {l:Lay} {b off n c s:Nat} {k:IntKind} {i:Int}:indexAddrA ⟨⟨sz,ag,bs,z, .slice⟩,fl,some l,kt⟩ (.oc b off n c s) (.int k i)=if l.sz=s∧0≤i∧i<n then some (.rp b (off+i.toNat) 0) else none:=by
 simp [indexAddrA,TyA.kind,TyA.esz]
theorem Yth {l:Lay} {s:Nat} {es:List AVal} {k:IntKind} {i:Int}:indexAddrA ⟨⟨sz,ag,bs,z, .slice⟩,fl,some l,kt⟩ (.ps s es) (.int k i)=if l.sz=s∧0≤i∧i<es.length then some (.pp (es.getD i.toNat .undef).cells) else none:=by
 simp [indexAddrA,TyA.kind,TyA.esz]
theorem Yrg {l:Lay} {b off m:Nat} {k:IntKind} {i:Int}:indexAddrA ⟨⟨sz,ag,bs,z, .array m⟩,fl,some l,kt⟩ (.ptr b off) (.int k i)=if 0≤i∧i<m then some (.ptr b (off+i.toNat*l.sz)) else none:=(Eq.refl _).trans rfl
theorem Yni {l:Lay} {cs:List AVal} {m:Nat} {k:IntKind} {i:Int}:indexA ⟨⟨sz,ag,bs,z, .array m⟩,fl,some l,kt⟩ (.agg cs) (.int k i)=if 0≤i∧i<m then takeA l (cs.drop (i.toNat*l.sz)) else none:=(Eq.refl _).trans rfl
theorem Ypx {s:ByteArray} {k:IntKind} {i:Int}:indexA ⟨⟨sz,ag,bs,z, .str⟩,fl,e,kt⟩ (.str s) (.int k i)=if h : 0≤i∧i.toNat<s.size then some (.int .u8 (s[i.toNat]'h.2).toNat) else none:=by
 by_cases h : 0≤i∧i.toNat<s.size
 ·rw [dif_pos h];exact dif_pos (⟨h,rfl⟩:(0≤i∧i.toNat<s.size)∧KA.str=KA.str)
 ·rw [dif_neg h];exact dif_neg (fun q:(0≤i∧i.toNat<s.size)∧KA.str=KA.str=>h q.1)
def lenT (k:KA) (σ:Store) (x:AVal):Option (AVal×Store) :=
 match k with
 | .array n=>some (.int .i64 n,σ)
 | .str | .slice | .map=>(lenA k σ x).map fun (n:Nat)=>(AVal.int .i64 (n:Int),σ)
 | _=>none
theorem Yl7 {P:Program} {op:BinOp} {t:TypeId} {k k':IntKind} {a b:Int}:binA P op t (.int k a) (.int k' b)=if k=k' then intBin op k a b else none:=(Eq.refl _).trans rfl
theorem Ylr {P:Program} {op:BinOp} {t:TypeId} {a b:ByteArray}:binA P op t (.str a) (.str b)=strBin op a b:=(Eq.refl _).trans rfl
theorem Yhl {P:Program} {op:BinOp} {t:TypeId} {a b:Bool}:binA P op t (.bool a) (.bool b)=cmpA P op t (.bool a) (.bool b):=(Eq.refl _).trans rfl
theorem Yks {P:Program} {op:BinOp} {t:TypeId} {a b:List AVal}:binA P op t (.agg a) (.agg b)=cmpA P op t (.agg a) (.agg b):=(Eq.refl _).trans rfl
theorem Zwb {P:Program} {op:BinOp} {t:TypeId} {ks vs:List AVal}:binA P op t (.pm ks vs) .nilmap=cmpA P op t (.pm ks vs) .nilmap:=(Eq.refl _).trans rfl
theorem Zt1 {P:Program} {op:BinOp} {t:TypeId} {b:Nat}:binA P op t (.map b) .nilmap=cmpA P op t (.map b) .nilmap:=(Eq.refl _).trans rfl
theorem Zsn {P:Program} {op:BinOp} {t:TypeId}:binA P op t .nilmap .nilmap=cmpA P op t .nilmap .nilmap:=(Eq.refl _).trans rfl
theorem Ytj {ks vs:List AVal}:mapSome (.pm ks vs)=some true:=(Eq.refl _).trans rfl
theorem Ynu {b:Nat}:mapSome (.map b)=some true:=(Eq.refl _).trans rfl
theorem Yp2:mapSome .nilmap=some false:=(Eq.refl _).trans rfl
theorem Ynf {k:IntKind} {a b:Int}:intBin .add k a b=some (.int k (k.wrap (a+b))):=(Eq.refl _).trans rfl
theorem Ynp {k:IntKind} {a b:Int}:intBin .sub k a b=some (.int k (k.wrap (a - b))):=(Eq.refl _).trans rfl
theorem Ys6 {k:IntKind} {a b:Int}:intBin .mul k a b=some (.int k (k.wrap (a*b))):=(Eq.refl _).trans rfl
theorem Yq3 {k:IntKind} {a b:Int}:intBin .quo k a b=if b≠0 then some (.int k (k.wrap (a.tdiv b))) else none:=(Eq.refl _).trans rfl
theorem Ysu {k:IntKind} {a b:Int}:intBin .rem k a b=if b≠0 then some (.int k (a.tmod b)) else none:=(Eq.refl _).trans rfl
theorem Yp8 {k:IntKind} {a b:Int}:intBin .eql k a b=some (.bool (decide (a=b))):=(Eq.refl _).trans rfl
theorem Yo8 {k:IntKind} {a b:Int}:intBin .neq k a b=some (.bool (decide (a≠b))):=(Eq.refl _).trans rfl
theorem Ysf {k:IntKind} {a b:Int}:intBin .lss k a b=some (.bool (decide (a<b))):=(Eq.refl _).trans rfl
theorem Ypw {k:IntKind} {a b:Int}:intBin .leq k a b=some (.bool (decide (a≤b))):=(Eq.refl _).trans rfl
theorem Yog {k:IntKind} {a b:Int}:intBin .gtr k a b=some (.bool (decide (b<a))):=(Eq.refl _).trans rfl
theorem Ysr {k:IntKind} {a b:Int}:intBin .geq k a b=some (.bool (decide (b≤a))):=(Eq.refl _).trans rfl
theorem Yn6 {P:Program} {t:TypeId}:cmpA P .eql t x y=(eqlA P t x y).map .bool:=(Eq.refl _).trans rfl
theorem Ykr {P:Program} {t:TypeId}:cmpA P .neq t x y=(eqlA P t x y).map fun b=>.bool !b:=(Eq.refl _).trans rfl
def eqlK (P:Program) (t:TypeId) (x y:AVal):Option KA→Option Bool
 | some .bool=>match x,y with
  | .bool a, .bool b=>some (a==b)
  | _,_=>none
 | some .ptr=>match ptrSome x,ptrSome y with
  | some false,some b=>some (!b)
  | some true,some false=>some false
  | _,_=>none
 | some .map=>match y with
  | .nilmap=>(mapSome x).map (!·)
  | _=>none
 | some .iface=>match ifaceSome x,ifaceSome y with
  | some true,some false | some false,some true=>some false
  | some false,some false=>if emptyIf P t=true then some true else none
  | _,_=>none
 | some .func=>match funcSome x,funcSome y with
  | some false,some b=>some (!b)
  | some true,some false=>some false
  | _,_=>none
 | some .struct=>match x,y with
  | .agg xs, .agg ys=>if xs.map kaV=ys.map kaV∧eqTy P t (xs.map kaV)=true then some (eqCells xs ys) else none
  | _,_=>none
 | _=>none
theorem Yee {P:Program} {t:TypeId}:eqlA P t x y=eqlK P t x y (kindOf P t):=by
 unfold eqlA
 cases kindOf P t with
 | none=>rfl
 | some K=>cases K<;>(try rfl)<;>(cases x<;>(try rfl)<;>cases y<;>rfl)
theorem Yf6 {P:Program} {t:TypeId} {a b:Bool}:eqlK P t (.bool a) (.bool b) (some .bool)=some (a==b):=(Eq.refl _).trans rfl
theorem Zx8 {P:Program} {t:TypeId} {a b:List AVal}:eqlK P t (.agg a) (.agg b) (some .struct)=if a.map kaV=b.map kaV∧eqTy P t (a.map kaV)=true then some (eqCells a b) else none:=(Eq.refl _).trans rfl
theorem Yms {P:Program} {t:TypeId}:eqlK P t x .nilmap (some .map)=(mapSome x).map (!·):=(Eq.refl _).trans rfl
theorem Ytu {f:FuncId} {a b:List AVal}:funcSome (.fn f a b)=some true:=(Eq.refl _).trans rfl
theorem Yo4:funcSome .nilfn=some false:=(Eq.refl _).trans rfl
theorem Yj8 {k:IntKind} {a:Int}:kaV (.int k a) = .int k:=(Eq.refl _).trans rfl
theorem Zrp {a:ByteArray}:kaV (.str a) = .str:=(Eq.refl _).trans rfl
theorem Ygu {a:Bool}:kaV (.bool a) = .bool:=(Eq.refl _).trans rfl
theorem Yor {a b:ByteArray}:strBin .add a b=if a.size+b.size≤1000000000 then some (.str (a++b)) else none:=(Eq.refl _).trans rfl
theorem Yqi {a b:ByteArray}:strBin .eql a b=some (.bool (a.toList==b.toList)):=(Eq.refl _).trans rfl
theorem Ypv {a b:ByteArray}:strBin .neq a b=some (.bool !(a.toList==b.toList)):=(Eq.refl _).trans rfl
theorem Yrw {a b:ByteArray}:strBin .lss a b=some (.bool (Op.bytesLess a.toList b.toList)):=(Eq.refl _).trans rfl
theorem Ynr {b:Bool}:unA .not (.bool b)=some (.bool !b):=(Eq.refl _).trans rfl
theorem Yr2 {k:IntKind} {a:Int}:unA .neg (.int k a)=some (.int k (k.wrap (0 - a))):=(Eq.refl _).trans rfl
theorem Yl9 {c a b:Bool}:pickA (.bool c) (.bool a) (.bool b)=some (.bool (if c then a else b)):=(Eq.refl _).trans rfl
theorem Ypq {c:Bool} {k k':IntKind} {a b:Int}:pickA (.bool c) (.int k a) (.int k' b)=some (if c then .int k a else .int k' b):=(Eq.refl _).trans rfl
variable {σ:Store}
theorem Ylz {s:ByteArray}:lenA .str σ (.str s)=some s.size:=(Eq.refl _).trans rfl
theorem Yo1 {s:Nat} {es:List AVal}:lenA .slice σ (.ps s es)=some es.length:=(Eq.refl _).trans rfl
theorem Ydt:lenA .slice σ .nils=some 0:=(Eq.refl _).trans rfl
theorem Yod {b o n s:Nat}:lenA .slice σ (.os b o n s)=some n:=(Eq.refl _).trans rfl
theorem Yq8 {b o n c s:Nat}:lenA .slice σ (.oc b o n c s)=some n:=(Eq.refl _).trans rfl
theorem Zxw:lenA .map σ .nilmap=some 0:=(Eq.refl _).trans rfl
theorem Yrs {ks vs:List AVal}:lenA .map σ (.pm ks vs)=some ks.length:=(Eq.refl _).trans rfl
def lenM:Option Blk→Option Nat
 | some (.map ks _ _)=>some ks.length
 | _=>none
theorem Ykq {b:Nat}:lenA .map σ (.map b)=lenM (getS σ b):=by
 simp only [lenA,lenM];cases getS σ b with | none=>rfl | some x=>cases x<;>rfl
theorem Yce {ks vs:List AVal} {f:Bool}:lenM (some (.map ks vs f))=some ks.length:=(Eq.refl _).trans rfl
theorem Ytr {s sz:Nat} {es:List AVal}:elemsA σ sz (.ps s es)=if s=sz then some es else none:=(Eq.refl _).trans rfl
theorem Yld {sz:Nat}:elemsA σ sz .nils=some []:=(Eq.refl _).trans rfl
def elRow (off n:Nat):Option Blk→Option (List AVal)
 | some (.row es _)=>if off+n≤es.length then some ((es.drop off).take n) else none
 | _=>none
theorem Yuu {sz b off n s:Nat}:elemsA σ sz (.os b off n s)=if s=sz then elRow off n (getS σ b) else none:=by
 simp only [elemsA,elRow];split
 ·cases getS σ b with | none=>rfl | some x=>cases x<;>rfl
 ·rfl
theorem Ytz {sz b off n c s:Nat}:elemsA σ sz (.oc b off n c s)=if s=sz then elRow off n (getS σ b) else none:=by
 simp only [elemsA,elRow];split
 ·cases getS σ b with | none=>rfl | some x=>cases x<;>rfl
 ·rfl
theorem Zwd {off n fz:Nat} {es:List AVal}:elRow off n (some (.row es fz))=if off+n≤es.length then some ((es.drop off).take n) else none:=(Eq.refl _).trans rfl
def capT (k:KA) (σ:Store) (x:AVal):Option (AVal×Store) :=
 match k with
 | .slice=>(capA x).map fun (n:Nat)=>(AVal.int .i64 (n:Int),σ)
 | _=>none
theorem Yp6 {P:Program} {nm:Nat} {t:TypeId}:builtinA P σ nm .len [t] [x]=(tyA P t).bind fun T=>lenT T.kind σ x:=by
 rfl
theorem Yf8 {m:Nat}:lenT (.array m) σ x=some (.int .i64 m,σ):=(Eq.refl _).trans rfl
theorem Yeh:lenT .str σ x=(lenA .str σ x).map fun (n:Nat)=>(AVal.int .i64 (n:Int),σ):=(Eq.refl _).trans rfl
theorem Zwl:lenT .slice σ x=(lenA .slice σ x).map fun (n:Nat)=>(AVal.int .i64 (n:Int),σ):=(Eq.refl _).trans rfl
theorem Yf9:lenT .map σ x=(lenA .map σ x).map fun (n:Nat)=>(AVal.int .i64 (n:Int),σ):=(Eq.refl _).trans rfl
theorem Zvb {L:Lay}:TyA.kind ⟨L,fl,e,kt⟩=L.key:=(Eq.refl _).trans rfl
def appT (σ:Store) (nm:Nat) (e:Lay) (s x:AVal):KA→Option (AVal×Store)
 | .slice=>(elemsA σ e.sz x).bind fun xs=>appendA σ nm e s xs
 | .str=>match x with
  | .str y=>if e.sz=1 then appendA σ nm e s (bytesOf y) else none
  | _=>none
 | .int _=>match x with
  | .int .i64 n=>if 0≤n∧n≤1000000000∧IntKind.i64.wrap n=n then appendA σ nm e s (List.replicate n.toNat (zeroV e)) else none
  | _=>none
 | _=>none
theorem Ys3 {P:Program} {nm:Nat} {t u:TypeId} {s:AVal}:builtinA P σ nm .append [t,u] [s,x]=(tyA P t).bind fun T=>(tyA P u).bind fun U=>match T.kind,T.elem with
  | .slice,some e=>appT σ nm e s x U.kind
  | _,_=>none:=by
 simp only [builtinA]
 congr;funext T;congr;funext U
 cases T.kind<;>(try rfl)<;>cases T.elem<;>(try rfl)<;>cases U.kind<;>rfl
def appK (σ:Store) (nm:Nat) (s x:AVal) (U:TyA):KA→Option Lay→Option (AVal×Store)
 | .slice,some e=>appT σ nm e s x U.kind
 | _,_=>none
theorem Yb6 {P:Program} {nm:Nat} {t u:TypeId} {s:AVal}:builtinA P σ nm .append [t,u] [s,x]=(tyA P t).bind fun T=>(tyA P u).bind fun U=>appK σ nm s x U T.kind T.elem:=by
 rw [Ys3];congr
theorem Zvh {nm:Nat} {s:AVal} {U:TyA} {l:Lay}:appK σ nm s x U .slice (some l)=appT σ nm l s x U.kind:=(Eq.refl _).trans rfl
theorem Zwt {nm:Nat} {l:Lay} {s:AVal}:appT σ nm l s x .slice=(elemsA σ l.sz x).bind fun xs=>appendA σ nm l s xs:=(Eq.refl _).trans rfl
theorem Yeo {nm:Nat} {l:Lay} {s:AVal} {y:ByteArray}:appT σ nm l s (.str y) .str=if l.sz=1 then appendA σ nm l s (bytesOf y) else none:=(Eq.refl _).trans rfl
theorem Yeq {nm:Nat} {l:Lay} {s:AVal} {k:IntKind} {n:Int}:appT σ nm l s (.int .i64 n) (.int k)=if 0≤n∧n≤1000000000∧IntKind.i64.wrap n=n then appendA σ nm l s (List.replicate n.toNat (zeroV l)) else none:=(Eq.refl _).trans rfl
theorem Yqx {P:Program} {nm:Nat} {t:TypeId}:builtinA P σ nm .cap [t] [x]=(tyA P t).bind fun T=>capT T.kind σ x:=by
 simp only [builtinA];congr
theorem Zvx:capT .slice σ x=(capA x).map fun (n:Nat)=>(AVal.int .i64 (n:Int),σ):=(Eq.refl _).trans rfl
theorem Zzq:capA .nils=some 0:=(Eq.refl _).trans rfl
theorem Yiz {b o n c s:Nat}:capA (.oc b o n c s)=some c:=(Eq.refl _).trans rfl
def clrT (σ:Store) (x:AVal):KA→Option Lay→Option (AVal×Store)
 | .slice,some e=>(lenS x).bind fun n=>if n=0 then some (.tup [],σ) else (overA σ e.sz x (List.replicate n (zeroV e))).map (.tup [], ·)
 | _,_=>none
theorem Yez {P:Program} {nm:Nat} {t:TypeId}:builtinA P σ nm .clear [t] [x]=(tyA P t).bind fun T=>clrT σ x T.kind T.elem:=by
 simp only [builtinA];congr
theorem Zw7 {l:Lay}:clrT σ x .slice (some l)=(lenS x).bind fun n=>if n=0 then some (.tup [],σ) else (overA σ l.sz x (List.replicate n (zeroV l))).map (.tup [], ·):=(Eq.refl _).trans rfl
def cpyT (σ:Store) (d x:AVal):KA→Option Lay→KA→Option (AVal×Store)
 | .slice,some e, .slice=>(lenS d).bind fun n=>(elemsA σ e.sz x).bind fun xs=>(overA σ e.sz d (xs.take n)).map (AVal.int .i64 ((xs.take n).length:Int), ·)
 | _,_,_=>none
theorem Yje {P:Program} {nm:Nat} {t u:TypeId} {d:AVal}:builtinA P σ nm .copy [t,u] [d,x]=(tyA P t).bind fun T=>(tyA P u).bind fun U=>cpyT σ d x T.kind T.elem U.kind:=by
 simp only [builtinA];congr
theorem Zww {l:Lay} {d:AVal}:cpyT σ d x .slice (some l) .slice=(lenS d).bind fun n=>(elemsA σ l.sz x).bind fun xs=>(overA σ l.sz d (xs.take n)).map (AVal.int .i64 ((xs.take n).length:Int), ·):=(Eq.refl _).trans rfl
theorem Ya3:lenS .nils=some 0:=(Eq.refl _).trans rfl
theorem Ym7 {b o n s:Nat}:lenS (.os b o n s)=some n:=(Eq.refl _).trans rfl
theorem Ylb {b o n c s:Nat}:lenS (.oc b o n c s)=some n:=(Eq.refl _).trans rfl
theorem Ykh {s:Nat} {es:List AVal}:lenS (.ps s es)=some es.length:=(Eq.refl _).trans rfl
def allOk (sz:Nat) (xs:List AVal):Prop:=∀ x∈xs,x.cells.length=sz∧x.cells.all AVal.isCell=true
open Classical in
noncomputable def ovRow (σ:Store) (sz b off n sz':Nat) (xs:List AVal):Option Blk→Option Store
 | some (.row es fz)=>if sz'=sz∧0<sz∧fz≤off∧xs.length≤n∧off+n≤es.length∧allOk sz xs then some (setS σ b (.row (setMany es off xs) fz)) else none
 | _=>none
theorem Zp6 {sz:Nat} {xs:List AVal}:xs.all (fun x=>x.cells.length==sz&&x.cells.all AVal.isCell)=true↔allOk sz xs:=by simp [allOk]
theorem Yuw {sz b off n s:Nat} {xs:List AVal}:overA σ sz (.os b off n s) xs=ovRow σ sz b off n s xs (getS σ b):=by
 simp only [overA,ovRow,← Zp6];cases getS σ b with | none=>rfl | some x=>cases x<;>rfl
theorem Ytf {sz b off n c s:Nat} {xs:List AVal}:overA σ sz (.oc b off n c s) xs=ovRow σ sz b off n s xs (getS σ b):=by
 simp only [overA,ovRow,← Zp6];cases getS σ b with | none=>rfl | some x=>cases x<;>rfl
open Classical in
theorem Zwn {sz b off n s fz:Nat} {xs es:List AVal}:ovRow σ sz b off n s xs (some (.row es fz))=if s=sz∧0<sz∧fz≤off∧xs.length≤n∧off+n≤es.length∧allOk sz xs then some (setS σ b (.row (setMany es off xs) fz)) else none:=(Eq.refl _).trans rfl
def appRow (σ:Store) (nm:Nat) (e:Lay) (b off n sz:Nat) (xs:List AVal):Option Blk→Option (AVal×Store)
 | some (.row es fz)=>if sz=e.sz∧fz≤off+n∧off+n≤es.length∧n+xs.length≤roomN e.bytes then
         some (.os nm 0 (n+xs.length) sz,setS (σ.set b none) nm (.row ((es.drop off).take n++xs) (fz - off)))
    else none
 | _=>none
def appOk (e:Lay) (xs:List AVal):Prop:=(∀ x∈xs,x.cells.length=e.sz∧x.cells.all AVal.isCell=true)∧0<e.sz∧e.bytes≤65536∧e.zero.length=e.sz
theorem Zjo {e:Lay} {xs:List AVal}:(xs.all (fun x=>x.cells.length==e.sz&&x.cells.all AVal.isCell)=true∧0<e.sz∧e.bytes≤65536∧e.zero.length=e.sz)↔appOk e xs:=by
 simp [appOk]
open Classical in
theorem Zme {nm:Nat} {l:Lay} {xs:List AVal}:appendA σ nm l .nils xs=if appOk l xs then (if xs.length=0 then some (.nils,σ) else if xs.length≤roomN l.bytes then some (.os nm 0 xs.length l.sz,setS σ nm (.row xs 0)) else none) else none:=by
 unfold appendA appendO
 simp only [← Zjo]
open Classical in
theorem Yag {nm:Nat} {l:Lay} {xs:List AVal} {b off n s:Nat}:appendA σ nm l (.os b off n s) xs=if appOk l xs then appRow σ nm l b off n s xs (getS σ b) else none:=by
 unfold appendA appendO
 simp only [← Zjo]
 split
 ·simp only [appRow];cases getS σ b with | none=>rfl | some x=>cases x<;>rfl
 ·rfl
theorem Zgp {nm:Nat} {l:Lay} {b off n s fz:Nat} {xs es:List AVal}:appRow σ nm l b off n s xs (some (.row es fz))=if s=l.sz∧fz≤off+n∧off+n≤es.length∧n+xs.length≤roomN l.bytes then
     some (.os nm 0 (n+xs.length) s,setS (σ.set b none) nm (.row ((es.drop off).take n++xs) (fz - off))) else none:=(Eq.refl _).trans rfl
def appRowC (σ:Store) (nm b off n c sz bys:Nat) (xs:List AVal):Option Blk→Option (AVal×Store)
 | some (.row es fz)=>if off+n≤es.length then
    if n+xs.length≤c then (if fz≤off+n∧off+n+xs.length≤es.length then some (.oc b off (n+xs.length) c sz,setS σ b (.row (setMany es (off+n) xs) fz)) else none)
    else if n+xs.length≤roomN bys then some (.os nm 0 (n+xs.length) sz,setS σ nm (.row ((es.drop off).take n++xs) 0)) else none
   else none
 | _=>none
open Classical in
theorem Yrf {nm:Nat} {l:Lay} {xs:List AVal} {b off n c s:Nat}:appendA σ nm l (.oc b off n c s) xs=if appOk l xs∧s=l.sz then appRowC σ nm b off n c s l.bytes xs (getS σ b) else none:=by
 unfold appendA appendC
 simp only [← Zjo]
 by_cases h1:(xs.all (fun x=>x.cells.length==l.sz&&x.cells.all AVal.isCell)=true∧0<l.sz∧l.bytes≤65536∧l.zero.length=l.sz)
 ·simp only [h1,and_true,true_and,if_true]
  by_cases h2:s=l.sz
  ·simp only [h2,true_and,if_true,appRowC];cases getS σ b with | none=>rfl | some x=>cases x<;>rfl
  ·simp only [h2,false_and,if_false];cases getS σ b with | none=>rfl | some x=>cases x<;>rfl
 ·rw [if_neg h1,if_neg (fun h=>h1 h.1)]
theorem Znq {nm b off n c s bys fz:Nat} {xs es:List AVal}:appRowC σ nm b off n c s bys xs (some (.row es fz))=if off+n≤es.length then
    if n+xs.length≤c then (if fz≤off+n∧off+n+xs.length≤es.length then some (.oc b off (n+xs.length) c s,setS σ b (.row (setMany es (off+n) xs) fz)) else none)
    else if n+xs.length≤roomN bys then some (.os nm 0 (n+xs.length) s,setS σ nm (.row ((es.drop off).take n++xs) 0)) else none
   else none:=(Eq.refl _).trans rfl
theorem Yr8 {P:Program} {nm:Nat} {ts:List TypeId} {rest:List AVal}:builtinA P σ nm .max ts (x :: rest)=(foldInts (fun a b=>if a<b then b else a) x rest).map (·,σ):=(Eq.refl _).trans rfl
theorem Yow {P:Program} {nm:Nat} {ts:List TypeId} {rest:List AVal}:builtinA P σ nm .min ts (x :: rest)=(foldInts (fun a b=>if b<a then b else a) x rest).map (·,σ):=(Eq.refl _).trans rfl
theorem Yrt {f:Int→Int→Int}:foldInts f x []=some x:=by cases x<;>rfl
theorem Ylw {f:Int→Int→Int} {k k':IntKind} {a b:Int} {rest:List AVal}:foldInts f (.int k a) (.int k' b :: rest)=foldInts f (.int k (f a b)) rest:=(Eq.refl _).trans rfl
theorem Yo2 {s:ByteArray} {lo hi:Option AVal}:sliceA ⟨⟨sz,ag,bs,z, .str⟩,fl,e,kt⟩ (.str s) lo hi none=(hiA s.size hi).bind fun h=>(loA h lo).bind fun l=>some (.str (s.extract l h)):=(Eq.refl _).trans rfl
theorem Yte {l0:Lay} {s:Nat} {es:List AVal} {lo hi:Option AVal}:sliceA ⟨⟨sz,ag,bs,z, .slice⟩,fl,some l0,kt⟩ (.ps s es) lo hi none=if l0.sz=s then (hiA es.length hi).bind fun h=>(loA h lo).bind fun l=>some (.ps s ((es.drop l).take (h - l))) else none:=by
 simp [sliceA,TyA.kind,TyA.esz]
theorem Ytp {l0:Lay} {b off n s:Nat} {lo hi:Option AVal}:sliceA ⟨⟨sz,ag,bs,z, .slice⟩,fl,some l0,kt⟩ (.os b off n s) lo hi none=if l0.sz=s then (hiA n hi).bind fun h=>(loA h lo).bind fun l=>some (.os b (off+l) (h - l) s) else none:=by
 simp [sliceA,TyA.kind,TyA.esz]
theorem Yu9 {l0:Lay} {b off n c s:Nat} {lo hi:Option AVal}:sliceA ⟨⟨sz,ag,bs,z, .slice⟩,fl,some l0,kt⟩ (.oc b off n c s) lo hi none=if l0.sz=s then (hiC n c hi).bind fun h=>(loA h lo).bind fun l=>some (.oc b (off+l) (h - l) (c - l) s) else none:=by
 simp [sliceA,TyA.kind,TyA.esz]
theorem Ys4 {l0:Lay} {b off n c s:Nat} {lo:Option AVal} {k k':IntKind} {hi mx:Int}:sliceA ⟨⟨sz,ag,bs,z, .slice⟩,fl,some l0,kt⟩ (.oc b off n c s) lo (some (.int k hi)) (some (.int k' mx))=if l0.sz=s then (if (0:Int)≤mx∧mx≤c then (if (0:Int)≤hi∧hi≤mx.toNat then (loA hi.toNat lo).bind fun l=>some (.oc b (off+l) (hi.toNat - l) (mx.toNat - l) s) else none) else none) else none:=by
 have e:∀ (n:Nat) (k:IntKind) (i:Int),natIn 0 n (.int k i)=if (0:Int)≤i∧i≤n then some i.toNat else none:=fun n k i=>by simp [natIn]
 simp only [sliceA,TyA.kind,TyA.esz,Option.map_some,true_and,Option.some.injEq]
 by_cases h1:l0.sz=s
 ·rw [if_pos h1,if_pos h1,e]
  by_cases h2:(0:Int)≤mx∧mx≤c
  ·rw [if_pos h2,if_pos h2,Option.bind_some,Option.bind_some,e]
   by_cases h3:(0:Int)≤hi∧hi≤mx.toNat
   ·rw [if_pos h3,if_pos h3,Option.bind_some]
   ·rw [if_neg h3,if_neg h3];rfl
  ·rw [if_neg h2,if_neg h2];rfl
 ·rw [if_neg h1,if_neg h1]
theorem Yea {n c:Nat}:hiC n c none=some n:=(Eq.refl _).trans rfl
theorem Yho {n c:Nat} {k:IntKind} {i:Int}:hiC n c (some (.int k i))=if (0:Int)≤i∧i≤c then some i.toNat else none:=by simp [hiC,natIn]
theorem Yl3 {l0:Lay} {lo hi:Option AVal}:sliceA ⟨⟨sz,ag,bs,z, .slice⟩,fl,some l0,kt⟩ .nils lo hi none=(hiA 0 hi).bind fun h=>(loA h lo).bind fun _=>some .nils:=by
 simp [sliceA,TyA.kind]
theorem Yku {n:Nat}:hiA n none=some n:=(Eq.refl _).trans rfl
theorem Ylv {n:Nat} {k:IntKind} {i:Int}:hiA n (some (.int k i))=if (0:Int)≤i∧i≤n then some i.toNat else none:=by simp [hiA,natIn]
theorem Ylm {n:Nat}:loA n none=some 0:=(Eq.refl _).trans rfl
theorem Ymn {n:Nat} {k:IntKind} {i:Int}:loA n (some (.int k i))=if (0:Int)≤i∧i≤n then some i.toNat else none:=by simp [loA,natIn]
theorem Ycn {ρ:Operand→AVal} {parts:List (Nat×Operand)}:buildA ⟨⟨sz,ag,bs,z, .struct⟩,fl,e,kt⟩ ρ parts=if fl.all (·.2.isSome)=true then (fillA fl ρ z parts).map .agg else none:=(Eq.refl _).trans rfl
theorem Yi5 {l0:Lay} {m:Nat} {ρ:Operand→AVal} {parts:List (Nat×Operand)}:buildA ⟨⟨sz,ag,bs,z, .array m⟩,fl,some l0,kt⟩ ρ parts=(fillA ((List.range m).map fun i=>(i*l0.sz,some l0)) ρ z parts).map .agg:=(Eq.refl _).trans rfl
def fill2 (flds:List (Nat×Option Lay)) (ρ:Operand→AVal) (cs:List AVal) (v:AVal) (rest:List (Nat×Operand)):Option (Nat×Option Lay)→Option (List AVal)
 | some (off,some l)=>if v.cells.length=l.sz∧off+l.sz≤cs.length∧v.cells.all AVal.isCell=true then fillA flds ρ (setMany cs off v.cells) rest else none
 | _=>none
theorem Yhr {ρ:Operand→AVal} {cs:List AVal}:fillA fl ρ cs []=some cs:=(Eq.refl _).trans rfl
theorem Zzc {ρ:Operand→AVal} {cs:List AVal} {i:Nat} {o:Operand} {rest:List (Nat×Operand)}:fillA fl ρ cs ((i,o) :: rest)=fill2 fl ρ cs (ρ o) rest fl[i]?:=by
 simp only [fillA,fill2]
 rcases fl[i]? with _ | ⟨off,_ | l⟩<;>rfl
theorem Zwy {ρ:Operand→AVal} {cs:List AVal} {v:AVal} {rest:List (Nat×Operand)} {off:Nat} {l:Lay}:fill2 fl ρ cs v rest (some (off,some l))=if v.cells.length=l.sz∧off+l.sz≤cs.length∧v.cells.all AVal.isCell=true then fillA fl ρ (setMany cs off v.cells) rest else none:=(Eq.refl _).trans rfl
theorem Ym4 {l0:Lay} {ρ:Operand→AVal} {k:Nat}:rowA l0 ρ k []=some []:=(Eq.refl _).trans rfl
theorem Yfm {l0:Lay} {ρ:Operand→AVal} {k i:Nat} {o:Operand} {rest:List (Nat×Operand)}:rowA l0 ρ k ((i,o) :: rest)=if i=k∧(ρ o).cells.length=l0.sz∧isAggA (ρ o)=l0.ag∧(ρ o).cells.all AVal.isCell=true then (rowA l0 ρ (k+1) rest).map (ρ o :: ·) else none:=(Eq.refl _).trans rfl
theorem Yr0 {nm:Nat} {l0:Lay} {l c:Int}:makeSliceA σ nm ⟨⟨sz,ag,bs,z, .slice⟩,fl,some l0,kt⟩ (.int .i64 l) (.int .i64 c)=if 0≤l∧l≤c∧c≤1000000000∧l0.bytes≤65536∧0<l0.sz∧l0.zero.length=l0.sz then some (.os nm 0 l.toNat l0.sz,setS σ nm (.row (List.replicate l.toNat (zeroV l0)) 0)) else none:=(Eq.refl _).trans rfl
theorem Yqg {s b:Nat} {z:List AVal} {k:KA}:zeroV ⟨s,true,b,z,k⟩ = .agg z:=(Eq.refl _).trans rfl
theorem Yqw {s b:Nat} {c:AVal} {z:List AVal} {k:KA}:zeroV ⟨s,false,b,c :: z,k⟩=c:=(Eq.refl _).trans rfl
def lkM (k:AVal) (ok:Bool) (l:Lay):Option Blk→Option AVal
 | some (.map ks vs _)=>if ks.all (sameKind k) then some (lookupIn ks vs (zeroV l) k ok) else none
 | _=>none
theorem Ysb {l0:Lay} {k:AVal} {ok:Bool} {σ:Store}:lookupA σ ⟨⟨sz,ag,bs,z, .map⟩,fl,some l0,kt⟩ .nilmap k ok=if keyOk ⟨⟨sz,ag,bs,z, .map⟩,fl,some l0,kt⟩ k=true then some (lookupIn [] [] (zeroV l0) k ok) else none:=(Eq.refl _).trans rfl
theorem Yuq {l0:Lay} {k:AVal} {ok:Bool} {σ:Store} {ks vs:List AVal}:lookupA σ ⟨⟨sz,ag,bs,z, .map⟩,fl,some l0,kt⟩ (.pm ks vs) k ok=if keyOk ⟨⟨sz,ag,bs,z, .map⟩,fl,some l0,kt⟩ k=true then (if ks.all (sameKind k)=true then some (lookupIn ks vs (zeroV l0) k ok) else none) else none:=(Eq.refl _).trans rfl
theorem Ypu {l0:Lay} {k:AVal} {ok:Bool} {σ:Store} {b:Nat}:lookupA σ ⟨⟨sz,ag,bs,z, .map⟩,fl,some l0,kt⟩ (.map b) k ok=if keyOk ⟨⟨sz,ag,bs,z, .map⟩,fl,some l0,kt⟩ k=true then lkM k ok l0 (getS σ b) else none:=by
 simp only [lookupA,lkM,TyA.kind]
 split
 ·cases getS σ b with | none=>rfl | some x=>cases x<;>rfl
 ·rfl
theorem Yh1 {k:AVal} {ok:Bool} {l:Lay} {ks vs:List AVal} {f:Bool}:lkM k ok l (some (.map ks vs f))=if ks.all (sameKind k)=true then some (lookupIn ks vs (zeroV l) k ok) else none:=(Eq.refl _).trans rfl
theorem Yrx {L:Lay} {s b:Nat} {a:Bool} {z:List AVal} {k k':IntKind} {n:Int}:keyOk ⟨L,fl,e,some ⟨s,a,b,z, .int k'⟩⟩ (.int k n)=(k==k'):=(Eq.refl _).trans rfl
theorem Yoa {L:Lay} {s b:Nat} {a:Bool} {z:List AVal} {y:ByteArray}:keyOk ⟨L,fl,e,some ⟨s,a,b,z, .str⟩⟩ (.str y)=true:=(Eq.refl _).trans rfl
theorem Yqv {k k':IntKind} {a b:Int}:sameKind (.int k a) (.int k' b)=(k==k'):=(Eq.refl _).trans rfl
theorem Yrv {a b:ByteArray}:sameKind (.str a) (.str b)=true:=(Eq.refl _).trans rfl
def muM (σ:Store) (b:Nat) (T:TyA) (k v:AVal) (l:Lay):Option Blk→Option Store
 | some (.map ks vs false)=>if keyOk T k&&ks.all (sameKind k)&&decide (v.cells.length=l.sz) then some (setS σ b (.map (mapSet ks vs k v).1 (mapSet ks vs k v).2 false)) else none
 | _=>none
theorem Yos {l0:Lay} {k v:AVal} {σ:Store} {b:Nat}:mapUpdateA σ ⟨⟨sz,ag,bs,z, .map⟩,fl,some l0,kt⟩ (.map b) k v=muM σ b ⟨⟨sz,ag,bs,z, .map⟩,fl,some l0,kt⟩ k v l0 (getS σ b):=by
 simp only [mapUpdateA,muM,TyA.kind]
 rcases getS σ b with _ | x
 ·rfl
 ·cases x<;>rfl
theorem Yem {σ:Store} {b:Nat} {T:TyA} {k v:AVal} {l:Lay} {ks vs:List AVal}:muM σ b T k v l (some (.map ks vs false))=if keyOk T k=true∧ks.all (sameKind k)=true∧v.cells.length=l.sz then some (setS σ b (.map (mapSet ks vs k v).1 (mapSet ks vs k v).2 false)) else none:=by
 simp only [muM,Bool.and_eq_true,decide_eq_true_eq,and_assoc]
end
section
variable {P:Program} {σ:Store} {nm:Nat} {ρ:Operand→AVal} {t:TypeId} {x y z:Operand}
theorem Yrh:opE P σ nm ρ (.move x)=some (ρ x,σ):=(Eq.refl _).trans rfl
theorem Yeg:opE P σ nm ρ (.assign x)=some (ρ x,σ):=(Eq.refl _).trans rfl
theorem Yq7:opE P σ nm ρ (.pick x y z)=(pickA (ρ x) (ρ y) (ρ z)).map (·,σ):=(Eq.refl _).trans rfl
theorem Yj4:opE P σ nm ρ (.alloc t)=(layOf P t).bind fun l=>some (.ptr nm 0,setS σ nm (.var l.zero)):=(Eq.refl _).trans rfl
theorem Yuh:opE P σ nm ρ (.box t x)=(layOf P t).bind fun l=>if (ρ x).cells.length=l.sz∧(ρ x).cells.all AVal.isCell=true then some (.ptr nm 0,setS σ nm (.var (ρ x).cells)) else none:=(Eq.refl _).trans rfl
theorem Ymj {p:Array (Nat×Operand)}:opE P σ nm ρ (.build t p)=(tyA P t).bind fun T=>(buildA T ρ p.toList).map (·,σ):=(Eq.refl _).trans rfl
theorem Zpy {n:Nat} {p:Array (Nat×Operand)}:opE P σ nm ρ (.buildSlice t n p)=(tyA P t).bind fun T=>T.elem.bind fun e=>(rowA e ρ 0 p.toList).bind fun es =>
   if es.length=n∧T.kind = .slice∧n*e.sz≤16777216∧e.zero.length=e.sz∧0<e.sz then some (.os nm 0 n e.sz,setS σ nm (.row es 0)) else none:=(Eq.refl _).trans rfl
theorem Yon:opE P σ nm ρ (.load t x)=(layOf P t).bind fun l=>(loadA σ l (ρ x)).map (·,σ):=(Eq.refl _).trans rfl
theorem Ync:opE P σ nm ρ (.store t x y)=(layOf P t).bind fun l=>(storeA σ l (ρ x) (ρ y)).map (.undef, ·):=(Eq.refl _).trans rfl
def nilC (σ:Store):AVal→Option (AVal×Store)
 | .ptr b o=>some (.ptr b o,σ)
 | .rp b i f=>some (.rp b i f,σ)
 | .pp cs=>some (.pp cs,σ)
 | .fn f a c=>some (.fn f a c,σ)
 | _=>none
theorem Yuv:opE P σ nm ρ (.nilCheck x)=nilC σ (ρ x):=by simp only [opE];cases ρ x<;>rfl
theorem Ysn {b o:Nat}:nilC σ (.ptr b o)=some (.ptr b o,σ):=(Eq.refl _).trans rfl
theorem Yu5 {b i f:Nat}:nilC σ (.rp b i f)=some (.rp b i f,σ):=(Eq.refl _).trans rfl
theorem Yto {cs:List AVal}:nilC σ (.pp cs)=some (.pp cs,σ):=(Eq.refl _).trans rfl
theorem Yuo {f:FuncId} {a c:List AVal}:nilC σ (.fn f a c)=some (.fn f a c,σ):=(Eq.refl _).trans rfl
theorem Ype {i:Nat}:nilOp (.tmp i)=false:=(Eq.refl _).trans rfl
theorem Ysg {k:IntKind} {n:Int}:nilOp (.const (.int k n))=false:=(Eq.refl _).trans rfl
theorem Ylk {b:Bool}:nilOp (.const (.bool b))=false:=(Eq.refl _).trans rfl
theorem Ypi {s:ByteArray}:nilOp (.const (.string s))=false:=(Eq.refl _).trans rfl
theorem Ybs:nilOp (.const (.pointer none))=false:=(Eq.refl _).trans rfl
theorem Zyy:nilOp (.const (.map none))=false:=(Eq.refl _).trans rfl
theorem Yf2:nilOp (.const .nilFunc)=false:=(Eq.refl _).trans rfl
theorem Ydu:nilOp (.const .nilIface)=false:=(Eq.refl _).trans rfl
theorem Yqh {l:Array Value}:nilOp (.const (.agg l))=false:=(Eq.refl _).trans rfl
theorem Ysc {a:Addr}:nilOp (.const (.pointer (some a)))=false:=(Eq.refl _).trans rfl
theorem Ygv {t:TypeId} {v:Value}:nilOp (.const (.iface t v))=false:=(Eq.refl _).trans rfl
theorem Ykb {g:Nat}:nilOp (.global g)=false:=(Eq.refl _).trans rfl
theorem Yml:nilOp (.const (.slice none 0 0))=true:=(Eq.refl _).trans rfl
theorem Yuk {op:BinOp} {x y:AVal}:binO P op t x y false=binA P op t x y:=(Eq.refl _).trans rfl
theorem Yrm {op:BinOp} {x y:AVal}:binO P op t x y true=nilE P op t x:=(Eq.refl _).trans rfl
def nilK (x:AVal) (neg:Bool):Option KA→Option AVal
 | some .slice=>nilS neg x
 | _=>none
theorem Yom {x:AVal}:nilE P .eql t x=nilK x false (kindOf P t):=by
 simp only [nilE,nilK];cases kindOf P t with | none=>rfl | some k=>cases k<;>rfl
theorem Ys7 {x:AVal}:nilE P .neq t x=nilK x true (kindOf P t):=by
 simp only [nilE,nilK];cases kindOf P t with | none=>rfl | some k=>cases k<;>rfl
theorem Yi8 {x:AVal} {neg:Bool}:nilK x neg (some .slice)=nilS neg x:=(Eq.refl _).trans rfl
theorem Yjo {neg:Bool}:nilS neg .nils=some .anyb:=(Eq.refl _).trans rfl
theorem Yug {neg:Bool} {s:Nat} {es:List AVal}:nilS neg (.ps s es)=some (if es.length=0 then .anyb else .bool neg):=(Eq.refl _).trans rfl
theorem Yv0 {neg:Bool} {b o n s:Nat}:nilS neg (.os b o n s)=some (if n=0 then .anyb else .bool neg):=(Eq.refl _).trans rfl
theorem Ytk {neg:Bool} {b o n c s:Nat}:nilS neg (.oc b o n c s)=some (if n=0 then .anyb else .bool neg):=(Eq.refl _).trans rfl
theorem Yux {op:BinOp} {u:TypeId}:opE P σ nm ρ (.binOp op t x y u)=(binO P op t (ρ x) (ρ y) (nilOp y)).map (·,σ):=(Eq.refl _).trans rfl
theorem e_un {op:UnOp}:opE P σ nm ρ (.unOp op t x)=(unA op (ρ x)).map (·,σ):=(Eq.refl _).trans rfl
theorem Zz8 {u:TypeId}:opE P σ nm ρ (.convert t u x)=(convertA P t u (ρ x)).map (·,σ):=(Eq.refl _).trans rfl
theorem Ys1 {f:FuncId} {a b:Array Operand}:opE P σ nm ρ (.makeFunc (.func f) a b)=some (.fn f (a.toList.map ρ) (b.toList.map ρ),σ):=(Eq.refl _).trans rfl
theorem Yuy:opE P σ nm ρ (.makeMap t none)=some (.map nm,setS σ nm (.map [] [] false)):=(Eq.refl _).trans rfl
theorem Zs0:opE P σ nm ρ (.makeSlice t x y)=(tyA P t).bind fun T=>makeSliceA σ nm T (ρ x) (ρ y):=(Eq.refl _).trans rfl
theorem Yjk {a b c:Option Operand}:opE P σ nm ρ (.slice t x a b c)=(tyA P t).bind fun T=>(sliceA T (ρ x) (a.map ρ) (b.map ρ) (c.map ρ)).map (·,σ):=(Eq.refl _).trans rfl
theorem Zsf {i:Nat}:opE P σ nm ρ (.fieldAddr t x i)=(tyA P t).bind fun T=>(fieldAddrA T (ρ x) i).map (·,σ):=(Eq.refl _).trans rfl
theorem Yk4 {i:Nat}:opE P σ nm ρ (.field t x i)=(tyA P t).bind fun T=>(fieldA T (ρ x) i).map (·,σ):=(Eq.refl _).trans rfl
theorem Zsb:opE P σ nm ρ (.indexAddr t x y)=(tyA P t).bind fun T=>(indexAddrA T (ρ x) (ρ y)).map (·,σ):=(Eq.refl _).trans rfl
theorem Yjs:opE P σ nm ρ (.index t x y)=(tyA P t).bind fun T=>(indexA T (ρ x) (ρ y)).map (·,σ):=(Eq.refl _).trans rfl
theorem Yex {ok:Bool}:opE P σ nm ρ (.lookup t x y ok)=(tyA P t).bind fun T=>(lookupA σ T (ρ x) (ρ y) ok).map (·,σ):=(Eq.refl _).trans rfl
theorem Yfg:opE P σ nm ρ (.insert t x y z)=(tyA P t).bind fun T=>(mapUpdateA σ T (ρ x) (ρ y) (ρ z)).map (.undef, ·):=(Eq.refl _).trans rfl
theorem Zqv:opE P σ nm ρ (.mapUpdate t x y z)=(tyA P t).bind fun T=>(mapUpdateA σ T (ρ x) (ρ y) (ρ z)).map (.undef, ·):=(Eq.refl _).trans rfl
def rangeS (σ:Store) (nm:Nat):KA→AVal→Option (AVal×Store)
 | .str, .str s=>some (.it nm,setS σ nm (.iter s 0))
 | .map, .pm ks vs=>some (.it nm,setS σ nm (.mit ks vs []))
 | _,_=>none
theorem Ymw:opE P σ nm ρ (.range t x)=(tyA P t).bind fun T=>rangeS σ nm T.kind (ρ x):=by
 simp only [opE];cases tyA P t with
 | none=>rfl
 | some T=>simp only [Option.bind_some];cases T.kind<;>(try rfl)<;>cases ρ x<;>rfl
theorem Zvs {s:ByteArray}:rangeS σ nm .str (.str s)=some (.it nm,setS σ nm (.iter s 0)):=(Eq.refl _).trans rfl
theorem Ybu {ks vs:List AVal}:rangeS σ nm .map (.pm ks vs)=some (.it nm,setS σ nm (.mit ks vs [])):=(Eq.refl _).trans rfl
theorem Ylo:opE P σ nm ρ (.entry x)=entryA σ (ρ x):=(Eq.refl _).trans rfl
def enN (σ:Store):Option Blk→Option (AVal×Store)
 | some (.mit ks vs seen)=>match seen.getLast? with
  | some i=>some (.tup [ks.getD i .undef,vs.getD i .undef],σ)
  | none=>none
 | _=>none
theorem Ytc {b:Nat}:entryA σ (.it b)=enN σ (getS σ b):=by
 simp only [entryA,enN];cases getS σ b with | none=>rfl | some x=>cases x<;>rfl
theorem Ye9 {ks vs:List AVal} {seen:List Nat} {i:Nat}:enN σ (some (.mit ks vs (seen++[i])))=some (.tup [ks.getD i .undef,vs.getD i .undef],σ):=by
 simp [enN]
theorem Yo7:opE P σ nm ρ (.next x true)=iterNext σ (ρ x):=(Eq.refl _).trans rfl
theorem Yg7 {u v:TypeId} {ok:Bool}:opE P σ nm ρ (.typeAssert x u v ok)=(typeAssertA P (ρ x) v ok).map (·,σ):=(Eq.refl _).trans rfl
def exT (σ:Store) (i:Nat):AVal→Option (AVal×Store)
 | .tup vs=>(vs[i]?).map (·,σ)
 | _=>none
theorem Yao {i:Nat}:opE P σ nm ρ (.extract x i)=exT σ i (ρ x):=by simp only [opE,exT];cases ρ x<;>rfl
theorem Yps {i:Nat} {vs:List AVal}:exT σ i (.tup vs)=(vs[i]?).map (·,σ):=(Eq.refl _).trans rfl
theorem Zzy {b:Builtin} {args:Array Operand} {ts:Array TypeId}:opE P σ nm ρ (.call ⟨.builtin b,args,ts⟩)=builtinA P σ nm b ts.toList (args.toList.map ρ):=(Eq.refl _).trans rfl
theorem Ycj:kindOf P t=(layOf P t).map (·.key):=(Eq.refl _).trans rfl
end
end Go.Abs
