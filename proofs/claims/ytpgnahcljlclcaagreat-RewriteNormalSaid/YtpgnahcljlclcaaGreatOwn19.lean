/- Part 19 of my own framework and of the walks of functions: AbsT. -/
import Derived.Test.YtpgnahcljlclcaaGreatOwn18
set_option linter.unusedVariables false
set_option linter.unusedSectionVars false
set_option linter.unusedSimpArgs false
namespace Go.Abs
open Go
section
variable {P:Program} {lo:Ctx} {Q:AExit→St→Prop} {n:Nat} {k:List KI} {tm:List AVal} {σ:Store} {all:Array Oper} {l:List Oper}
theorem Ybr {ι:Type} {I : ι→List AVal} {S : ι→Store} {μ : ι→Nat} {x : ι} {s:St}:loopQ P lo Q k I S μ x .normal s = ∃ y,leSt (I y) (S y) s∧μ y < μ x:=(Eq.refl _).trans rfl
theorem Yn5 {ι:Type} {I : ι→List AVal} {S : ι→Store} {μ : ι→Nat} {x : ι} {s:St} {i:Nat}:loopQ P lo Q k I S μ x (.exit i) s=EvK P lo Q k (.exit i) s:=(Eq.refl _).trans rfl
theorem Yp5 {ι:Type} {I : ι→List AVal} {S : ι→Store} {μ : ι→Nat} {x : ι} {s:St} {i:Nat}:loopQ P lo Q k I S μ x (.goto i) s=EvK P lo Q k (.goto i) s:=(Eq.refl _).trans rfl
theorem Yue {ι:Type} {I : ι→List AVal} {S : ι→Store} {μ : ι→Nat} {x : ι} {s:St}:loopQ P lo Q k I S μ x .ret s=EvK P lo Q k .ret s:=(Eq.refl _).trans rfl
theorem Ycc {rs:List ResultVar} {K:AVal→Store→Prop} {s:St}:retQ P rs K .normal s = ∃ r,resultsA P s rs=some r∧K r s.σ:=(Eq.refl _).trans rfl
theorem Yrj {rs:List ResultVar} {K:AVal→Store→Prop} {s:St}:retQ P rs K .ret s = ∃ r,resultsA P s rs=some r∧K r s.σ:=(Eq.refl _).trans rfl
theorem Ygi {ι:Type} {I : ι→List AVal} {S : ι→Store} {μ : ι→Nat} {x : ι} {s:St} {u:Value}:loopQ P lo Q k I S μ x (.panic u) s=EvK P lo Q k (.panic u) s:=(Eq.refl _).trans rfl
theorem Ytm {r r0:AVal}:isT r r0 σ=pT (fun _=>true) σ r r0:=(Eq.refl _).trans rfl
theorem Yme {r:ResultVar} {tm:List AVal}:resultsA P ⟨tm,σ⟩ [r]=resA tm σ P r:=by
 simp only [resultsA,List.mapM_cons,List.mapM_nil]
 cases resA tm σ P r<;>rfl
theorem Yk0 {tm:List AVal}:resultsA P ⟨tm,σ⟩ []=some (.tup []):=(Eq.refl _).trans rfl
theorem Ynd {r r':ResultVar} {rs:List ResultVar} {tm:List AVal}:resultsA P ⟨tm,σ⟩ (r :: r' :: rs)=((r :: r' :: rs).mapM (resA tm σ P)).map .tup:=by
 simp only [resultsA,List.mapM_cons]
 cases resA tm σ P r with
 | none=>rfl
 | some a=>cases resA tm σ P r' with
  | none=>rfl
  | some b=>cases List.mapM (resA tm σ P) rs<;>rfl
theorem Yny {t:Tmp} {tm:List AVal}:resA tm σ P (.tmp t)=some (tm.getD t .undef):=(Eq.refl _).trans rfl
theorem Yjr {a:Tmp} {t:TypeId} {tm:List AVal}:resA tm σ P (.cell a t)=(layOf P t).bind fun l=>loadA σ l (tm.getD a .undef):=(Eq.refl _).trans rfl
theorem Ylr {tm':List AVal} {σ':Store}:leSt tm' σ' ⟨tm,σ⟩=(leTm tm' tm∧leSo σ' σ∧lowL σ'.length tm'∧lowSo σ'.length σ'):=(Eq.refl _).trans rfl
theorem Yhm:leTm [] []=True:=(Eq.refl _).trans rfl
theorem Zxf {b:AVal} {as_ bs:List AVal}:leTm (.undef :: as_) (b :: bs)=leTm as_ bs:=by simp [leTm]
theorem Ybq {a:AVal} {as_ bs:List AVal}:leTm (a :: as_) (a :: bs)=leTm as_ bs:=by simp [leTm]
theorem Ye0 {a b:AVal} {as_ bs:List AVal}:leTm (a :: as_) (b :: bs)=((a=b∨a = .undef)∧leTm as_ bs):=(Eq.refl _).trans rfl
theorem Yhx:leSo [] σ=True:=(Eq.refl _).trans rfl
theorem Ybn {a b:Option Blk} {as_ bs:Store}:leSo (a :: as_) (b :: bs)=((a=b∨a=none)∧leSo as_ bs):=(Eq.refl _).trans rfl
theorem Zq6 {b:Option Blk} {as_ bs:Store}:leSo (none :: as_) (b :: bs)=leSo as_ bs:=by simp [leSo]
theorem Zqm {a:Option Blk} {as_ bs:Store}:leSo (a :: as_) (a :: bs)=leSo as_ bs:=by simp [leSo]
theorem Zhc {n:Nat}:lowSo n []=True:=(Eq.refl _).trans rfl
theorem Zmn {n:Nat}:lowSo n (none :: σ)=lowSo n σ:=by simp [lowSo,lowO]
theorem Zxk {n:Nat} {b:Blk}:lowSo n (some b :: σ)=(b.low n∧lowSo n σ):=(Eq.refl _).trans rfl
theorem Yhg {n:Nat}:lowL n []=True:=(Eq.refl _).trans rfl
theorem Yds {n:Nat} {a:AVal} {as_:List AVal}:lowL n (a :: as_)=(a.low n∧lowL n as_):=(Eq.refl _).trans rfl
theorem Ydl {n:Nat}:AVal.low n .undef=True:=(Eq.refl _).trans rfl
theorem Ygj {n:Nat} {b:Bool}:AVal.low n (.bool b)=True:=(Eq.refl _).trans rfl
theorem Ykz {n:Nat} {k:IntKind} {i:Int}:AVal.low n (.int k i)=True:=(Eq.refl _).trans rfl
theorem Ymw {n:Nat} {s:ByteArray}:AVal.low n (.str s)=True:=(Eq.refl _).trans rfl
theorem Zx1 {n:Nat}:AVal.low n .nilptr=True:=(Eq.refl _).trans rfl
theorem Ygh {n:Nat}:AVal.low n .nils=True:=(Eq.refl _).trans rfl
theorem Yee {n:Nat}:AVal.low n .nilfn=True:=(Eq.refl _).trans rfl
theorem Zyo {n:Nat}:AVal.low n .nilmap=True:=(Eq.refl _).trans rfl
theorem Yed {n:Nat}:AVal.low n .nilif=True:=(Eq.refl _).trans rfl
theorem Yl6 {n:Nat} {v:Value}:AVal.low n (.opq v)=True:=(Eq.refl _).trans rfl
theorem Ynp {n b o:Nat}:AVal.low n (.ptr b o)=(b<n):=(Eq.refl _).trans rfl
theorem Yua {n b i f:Nat}:AVal.low n (.rp b i f)=(b<n):=(Eq.refl _).trans rfl
theorem Yqz {n b o m s:Nat}:AVal.low n (.os b o m s)=(b<n):=(Eq.refl _).trans rfl
theorem Ytk {n b o m c s:Nat}:AVal.low n (.oc b o m c s)=(b<n):=(Eq.refl _).trans rfl
theorem Ylu {n b:Nat}:AVal.low n (.yld b)=(b<n):=(Eq.refl _).trans rfl
theorem Yoc {n b:Nat}:AVal.low n (.map b)=(b<n):=(Eq.refl _).trans rfl
theorem Yro {n b:Nat}:AVal.low n (.it b)=(b<n):=(Eq.refl _).trans rfl
theorem Ysi {n:Nat} {cs:List AVal}:AVal.low n (.pp cs)=lowL n cs:=(Eq.refl _).trans rfl
theorem Ypn {n s:Nat} {cs:List AVal}:AVal.low n (.ps s cs)=lowL n cs:=(Eq.refl _).trans rfl
theorem Ynz {n:Nat} {cs:List AVal}:AVal.low n (.agg cs)=lowL n cs:=(Eq.refl _).trans rfl
theorem Ypf {n:Nat} {cs:List AVal}:AVal.low n (.tup cs)=lowL n cs:=(Eq.refl _).trans rfl
theorem Yuf {n:Nat} {f:FuncId} {a c:List AVal}:AVal.low n (.fn f a c)=(lowL n a∧lowL n c):=(Eq.refl _).trans rfl
theorem Ysm {n:Nat} {a c:List AVal}:AVal.low n (.pm a c)=(lowL n a∧lowL n c):=(Eq.refl _).trans rfl
theorem Yai {n:Nat} {t:TypeId} {v:AVal}:AVal.low n (.iface t v)=v.low n:=(Eq.refl _).trans rfl
theorem Ys9 {n:Nat} {cs:List AVal}:Blk.low n (.var cs)=lowL n cs:=(Eq.refl _).trans rfl
theorem Yq8 {n fz:Nat} {cs:List AVal}:Blk.low n (.row cs fz)=lowL n cs:=(Eq.refl _).trans rfl
theorem Ytl {n:Nat} {a c:List AVal} {f:Bool}:Blk.low n (.map a c f)=(lowL n a∧lowL n c):=(Eq.refl _).trans rfl
theorem Yqp {n:Nat} {ks vs:List AVal} {s:List Nat}:Blk.low n (.mit ks vs s)=(lowL n ks∧lowL n vs):=(Eq.refl _).trans rfl
theorem Yl2 {n pos:Nat} {s:ByteArray}:Blk.low n (.iter s pos)=True:=(Eq.refl _).trans rfl
theorem Ylb {F:Nat→Bool}:pTL F σ [] []=True:=by simp [pTL]
theorem Zcx {F:Nat→Bool} {t a:AVal} {ts as_:List AVal}:pTL F σ (t :: ts) (a :: as_)=(pT F σ t a∧pTL F σ ts as_):=by simp [pTL]
theorem Yjo {F:Nat→Bool} {ts:List AVal}:pTL F σ ts ts=True:=eq_true (Za1 F σ ts)
theorem Yoe {F:Nat→Bool} {t:AVal}:pT F σ t t=True:=eq_true (Zb4 F σ t)
theorem Yu6 {F:Nat→Bool} {cs cs':List AVal}:pT F σ (.agg cs') (.agg cs)=pTL F σ cs' cs:=by simp [pT]
theorem Ypq {F:Nat→Bool} {cs cs':List AVal}:pT F σ (.tup cs') (.tup cs)=pTL F σ cs' cs:=by simp [pT]
theorem Yvi {F:Nat→Bool} {cs cs':List AVal}:pT F σ (.pp cs') (.pp cs)=pTL F σ cs' cs:=by simp [pT]
theorem Ypg {F:Nat→Bool} {s:Nat} {ts:List AVal}:pT F σ (.ps s ts) .nils=(ts=[]):=by simp [pT]
theorem Yx1 {F:Nat→Bool} {s s':Nat} {ts es:List AVal}:pT F σ (.ps s ts) (.ps s' es)=(s'=s∧pTL F σ ts es):=by simp [pT]
def pTrow (F:Nat→Bool) (σ:Store) (ts:List AVal) (off n:Nat):Option Blk→Prop
 | some (.row es _)=>off+n≤es.length∧pTL F σ ts ((es.drop off).take n)
 | _=>False
theorem Yru {F:Nat→Bool} {s s' b off n:Nat} {ts:List AVal}:pT F σ (.ps s ts) (.os b off n s')=(s'=s∧F b=true∧pTrow F σ ts off n (getS σ b)):=by
 simp only [pT,pTrow];cases getS σ b with | none=>rfl | some x=>cases x<;>rfl
theorem Zm0 {F:Nat→Bool} {ts es:List AVal} {off n fz:Nat}:pTrow F σ ts off n (some (.row es fz))=(off+n≤es.length∧pTL F σ ts ((es.drop off).take n)):=(Eq.refl _).trans rfl
theorem Yw5 {F:Nat→Bool} {a b c d:List AVal}:pT F σ (.pm a b) (.pm c d)=(pTL F σ a c∧pTL F σ b d):=by simp [pT]
def pTmap (F:Nat→Bool) (σ:Store) (a b:List AVal):Option Blk→Prop
 | some (.map ks vs _)=>pTL F σ a ks∧pTL F σ b vs
 | _=>False
theorem Yt2 {F:Nat→Bool} {a b:List AVal} {m:Nat}:pT F σ (.pm a b) (.map m)=(F m=true∧pTmap F σ a b (getS σ m)):=by
 simp only [pT,pTmap];cases getS σ m with | none=>rfl | some x=>cases x<;>rfl
theorem Zyi {F:Nat→Bool} {a b ks vs:List AVal} {f:Bool}:pTmap F σ a b (some (.map ks vs f))=(pTL F σ a ks∧pTL F σ b vs):=(Eq.refl _).trans rfl
theorem Yif {F:Nat→Bool} {t t':TypeId} {a b:AVal}:pT F σ (.iface t' a) (.iface t b)=(t'=t∧pT F σ a b):=by simp [pT]
theorem Yx7 {F:Nat→Bool} {f f':FuncId} {a b c d:List AVal}:pT F σ (.fn f' a b) (.fn f c d)=(f'=f∧pTL F σ a c∧pTL F σ b d):=by simp [pT]
theorem Yo2 {F:Nat→Bool} {b:Bool} {a:AVal}:pT F σ (.bool b) a=(a = .bool b):=by simp [pT]
theorem Ytx {F:Nat→Bool} {k:IntKind} {i:Int} {a:AVal}:pT F σ (.int k i) a=(a = .int k i):=by simp [pT]
theorem Yuj {F:Nat→Bool} {s:ByteArray} {a:AVal}:pT F σ (.str s) a=(a = .str s):=by simp [pT]
theorem Yqm {F:Nat→Bool} {i:Nat}:frzI F i []=[]:=(Eq.refl _).trans rfl
theorem Ym2 {F:Nat→Bool} {i:Nat} {b:Option Blk} {σ:Store}:frzI F i (b :: σ)=(if F i=true then frzO b else b) :: frzI F (i+1) σ:=(Eq.refl _).trans rfl
theorem Ypv {es:List AVal} {fz:Nat}:frzO (some (.row es fz))=some (.row es (max fz es.length)):=(Eq.refl _).trans rfl
theorem Yq7 {ks vs:List AVal} {f:Bool}:frzO (some (.map ks vs f))=some (.map ks vs true):=(Eq.refl _).trans rfl
theorem Zba {b:Nat}:among [] b=false:=(Eq.refl _).trans rfl
theorem Zb2 {a b:Nat} {bs:List Nat}:among (a :: bs) b=(a==b||among bs b):=by simp [among]
end
section
variable {P:Program} {lo:Ctx} {Q:AExit→St→Prop} {n:Nat} {k:List KI} {tm:List AVal} {σ:Store} {all:Array Oper} {l:List Oper} {d:Option Tmp} {tt:TypeId} {ps:String} {af:Array Edge} {gg:Option (Nat×Bool)}
theorem Zwp {bi:Builtin} {args:Array Operand} {ts:Array TypeId}:goO P lo Q (n+1) ⟨d, .call ⟨.builtin bi,args,ts⟩,tt,ps,af,gg⟩ all l k tm σ=goR P lo Q n (opE P σ σ.length (ev tm) (.call ⟨.builtin bi,args,ts⟩)) d all l k tm:=(Eq.refl _).trans rfl
theorem Ymx {f:FuncId} {a c:Array Operand}:goO P lo Q (n+1) ⟨d, .makeFunc (.func f) a c,tt,ps,af,gg⟩ all l k tm σ=goR P lo Q n (opE P σ σ.length (ev tm) (.makeFunc (.func f) a c)) d all l k tm:=(Eq.refl _).trans rfl
theorem Yoq {x:Operand}:goO P lo Q (n+1) ⟨d, .move x,tt,ps,af,gg⟩ all l k tm σ=goR P lo Q n (opE P σ σ.length (ev tm) (.move x)) d all l k tm:=(Eq.refl _).trans rfl
theorem Yax {x:Operand}:goO P lo Q (n+1) ⟨d, .assign x,tt,ps,af,gg⟩ all l k tm σ=goR P lo Q n (opE P σ σ.length (ev tm) (.assign x)) d all l k tm:=(Eq.refl _).trans rfl
theorem Ym6 {x:Operand} {y:Operand} {z:Operand}:goO P lo Q (n+1) ⟨d, .pick x y z,tt,ps,af,gg⟩ all l k tm σ=goR P lo Q n (opE P σ σ.length (ev tm) (.pick x y z)) d all l k tm:=(Eq.refl _).trans rfl
theorem Yg7 {t:TypeId}:goO P lo Q (n+1) ⟨d, .alloc t,tt,ps,af,gg⟩ all l k tm σ=goR P lo Q n (opE P σ σ.length (ev tm) (.alloc t)) d all l k tm:=(Eq.refl _).trans rfl
theorem Yqc {t:TypeId} {x:Operand}:goO P lo Q (n+1) ⟨d, .box t x,tt,ps,af,gg⟩ all l k tm σ=goR P lo Q n (opE P σ σ.length (ev tm) (.box t x)) d all l k tm:=(Eq.refl _).trans rfl
theorem Yho {t:TypeId} {pp:Array (Nat×Operand)}:goO P lo Q (n+1) ⟨d, .build t pp,tt,ps,af,gg⟩ all l k tm σ=goR P lo Q n (opE P σ σ.length (ev tm) (.build t pp)) d all l k tm:=(Eq.refl _).trans rfl
theorem Zmu {t:TypeId} {m:Nat} {pp:Array (Nat×Operand)}:goO P lo Q (n+1) ⟨d, .buildSlice t m pp,tt,ps,af,gg⟩ all l k tm σ=goR P lo Q n (opE P σ σ.length (ev tm) (.buildSlice t m pp)) d all l k tm:=(Eq.refl _).trans rfl
theorem Yp6 {t:TypeId} {x:Operand}:goO P lo Q (n+1) ⟨d, .load t x,tt,ps,af,gg⟩ all l k tm σ=goR P lo Q n (opE P σ σ.length (ev tm) (.load t x)) d all l k tm:=(Eq.refl _).trans rfl
theorem Yio {t:TypeId} {x:Operand} {y:Operand}:goO P lo Q (n+1) ⟨d, .store t x y,tt,ps,af,gg⟩ all l k tm σ=goR P lo Q n (opE P σ σ.length (ev tm) (.store t x y)) d all l k tm:=(Eq.refl _).trans rfl
theorem Zss {x:Operand}:goO P lo Q (n+1) ⟨d, .nilCheck x,tt,ps,af,gg⟩ all l k tm σ=goR P lo Q n (opE P σ σ.length (ev tm) (.nilCheck x)) d all l k tm:=(Eq.refl _).trans rfl
theorem Yfh {op:BinOp} {t:TypeId} {x:Operand} {y:Operand} {u:TypeId}:goO P lo Q (n+1) ⟨d, .binOp op t x y u,tt,ps,af,gg⟩ all l k tm σ=goR P lo Q n (opE P σ σ.length (ev tm) (.binOp op t x y u)) d all l k tm:=(Eq.refl _).trans rfl
theorem Yon {uo:UnOp} {t:TypeId} {x:Operand}:goO P lo Q (n+1) ⟨d, .unOp uo t x,tt,ps,af,gg⟩ all l k tm σ=goR P lo Q n (opE P σ σ.length (ev tm) (.unOp uo t x)) d all l k tm:=(Eq.refl _).trans rfl
theorem Zxg {t:TypeId} {u:TypeId} {x:Operand}:goO P lo Q (n+1) ⟨d, .convert t u x,tt,ps,af,gg⟩ all l k tm σ=goR P lo Q n (opE P σ σ.length (ev tm) (.convert t u x)) d all l k tm:=(Eq.refl _).trans rfl
theorem Ziw {t:TypeId} {x:Operand}:goO P lo Q (n+1) ⟨d, .makeInterface t x,tt,ps,af,gg⟩ all l k tm σ=goR P lo Q n (opE P σ σ.length (ev tm) (.makeInterface t x)) d all l k tm:=(Eq.refl _).trans rfl
theorem Yk3 {t:TypeId} {x:Operand} {ox:Option Operand} {oy:Option Operand} {oz:Option Operand}:goO P lo Q (n+1) ⟨d, .slice t x ox oy oz,tt,ps,af,gg⟩ all l k tm σ=goR P lo Q n (opE P σ σ.length (ev tm) (.slice t x ox oy oz)) d all l k tm:=(Eq.refl _).trans rfl
theorem Zr4 {t:TypeId} {x:Operand} {m:Nat}:goO P lo Q (n+1) ⟨d, .fieldAddr t x m,tt,ps,af,gg⟩ all l k tm σ=goR P lo Q n (opE P σ σ.length (ev tm) (.fieldAddr t x m)) d all l k tm:=(Eq.refl _).trans rfl
theorem Yhq {t:TypeId} {x:Operand} {m:Nat}:goO P lo Q (n+1) ⟨d, .field t x m,tt,ps,af,gg⟩ all l k tm σ=goR P lo Q n (opE P σ σ.length (ev tm) (.field t x m)) d all l k tm:=(Eq.refl _).trans rfl
theorem Zq5 {t:TypeId} {x:Operand} {y:Operand}:goO P lo Q (n+1) ⟨d, .indexAddr t x y,tt,ps,af,gg⟩ all l k tm σ=goR P lo Q n (opE P σ σ.length (ev tm) (.indexAddr t x y)) d all l k tm:=(Eq.refl _).trans rfl
theorem Yfp {t:TypeId} {x:Operand} {y:Operand}:goO P lo Q (n+1) ⟨d, .index t x y,tt,ps,af,gg⟩ all l k tm σ=goR P lo Q n (opE P σ σ.length (ev tm) (.index t x y)) d all l k tm:=(Eq.refl _).trans rfl
theorem Yej {t:TypeId} {x:Operand} {y:Operand} {b:Bool}:goO P lo Q (n+1) ⟨d, .lookup t x y b,tt,ps,af,gg⟩ all l k tm σ=goR P lo Q n (opE P σ σ.length (ev tm) (.lookup t x y b)) d all l k tm:=(Eq.refl _).trans rfl
theorem Zoi {t:TypeId} {x:Operand} {y:Operand} {z:Operand}:goO P lo Q (n+1) ⟨d, .mapUpdate t x y z,tt,ps,af,gg⟩ all l k tm σ=goR P lo Q n (opE P σ σ.length (ev tm) (.mapUpdate t x y z)) d all l k tm:=(Eq.refl _).trans rfl
theorem Yci {t:TypeId} {x:Operand} {y:Operand} {z:Operand}:goO P lo Q (n+1) ⟨d, .insert t x y z,tt,ps,af,gg⟩ all l k tm σ=goR P lo Q n (opE P σ σ.length (ev tm) (.insert t x y z)) d all l k tm:=(Eq.refl _).trans rfl
theorem Yjj {t:TypeId} {x:Operand}:goO P lo Q (n+1) ⟨d, .range t x,tt,ps,af,gg⟩ all l k tm σ=goR P lo Q n (opE P σ σ.length (ev tm) (.range t x)) d all l k tm:=(Eq.refl _).trans rfl
theorem Yl8 {x:Operand}:goO P lo Q (n+1) ⟨d, .next x true,tt,ps,af,gg⟩ all l k tm σ=goR P lo Q n (opE P σ σ.length (ev tm) (.next x true)) d all l k tm:=(Eq.refl _).trans rfl
theorem Yiy {x:Operand}:goO P lo Q (n+1) ⟨d, .entry x,tt,ps,af,gg⟩ all l k tm σ=goR P lo Q n (opE P σ σ.length (ev tm) (.entry x)) d all l k tm:=(Eq.refl _).trans rfl
theorem Yii {x:Operand}:goO P lo Q (n+1) ⟨d, .next x false,tt,ps,af,gg⟩ all l k tm σ=nextQ (ev tm x) σ fun r σ'=>EvK P lo Q (.ops all l :: k) .normal ⟨put tm d r,σ'⟩:=(Eq.refl _).trans rfl
theorem Zn4 {x:Operand} {t:TypeId} {u:TypeId} {b:Bool}:goO P lo Q (n+1) ⟨d, .typeAssert x t u b,tt,ps,af,gg⟩ all l k tm σ=goR P lo Q n (opE P σ σ.length (ev tm) (.typeAssert x t u b)) d all l k tm:=(Eq.refl _).trans rfl
theorem Zyy {x:Operand} {m:Nat}:goO P lo Q (n+1) ⟨d, .extract x m,tt,ps,af,gg⟩ all l k tm σ=goR P lo Q n (opE P σ σ.length (ev tm) (.extract x m)) d all l k tm:=(Eq.refl _).trans rfl
theorem Zp2 {t:TypeId} {x:Operand} {y:Operand}:goO P lo Q (n+1) ⟨d, .makeSlice t x y,tt,ps,af,gg⟩ all l k tm σ=goR P lo Q n (opE P σ σ.length (ev tm) (.makeSlice t x y)) d all l k tm:=(Eq.refl _).trans rfl
theorem Zxv {t:TypeId} {ox:Option Operand}:goO P lo Q (n+1) ⟨d, .makeMap t ox,tt,ps,af,gg⟩ all l k tm σ=goR P lo Q n (opE P σ σ.length (ev tm) (.makeMap t ox)) d all l k tm:=(Eq.refl _).trans rfl
end
attribute [go_sem] Zwp Ymx Yoq Yax Ym6 Yg7 Yqc Yho Zmu Yp6 Yio Zss Yfh Yon Zxg Ziw Yk3 Zr4 Yhq Zq5 Yfp Yej Zoi Yci Yjj Yl8 Yii Yiy Zn4 Zyy Zp2 Zxv
theorem Yoh {b:Bool}:gd2 true (some (.bool b))=some b:=by cases b<;>rfl
theorem Yul {b:Bool}:gd2 false (some (.bool b))=some (!b):=by cases b<;>rfl
theorem Yow {x y:AVal}:pickA (.bool true) x y=some x:=by cases x<;>cases y<;>rfl
theorem Yg6 {x y:AVal}:pickA (.bool false) x y=some y:=by cases x<;>cases y<;>rfl
attribute [go_sem high] Yoh Yul Yow Yg6
attribute [go_sem high] Yr9 Ymz Yqh Ymj Zxf Ybq Zqm Zq6 Ysb Yoe Yjo
attribute [go_sem] Zv0 Yvt Ypu Ywb Ytp Yll Yg9 Ypp Yu3 Yvr Ylz Ym4 Yuc Ztt Ysa Zto Ztv Zwf Yep Zxo Zpd Zzx Zww Zy6 Zr3 Yew Zy3 Yqk Ybf R_if Yx6 Zty Zxz Zqu Zsk Yfv Yh6 Yhd Yjd Yhs Yta Yg1 Ya4 You Ymk Ysp Yto Ydf Ypb Ybh Yfu Yja Yhv Yhk Zzf Zq9 Zyb Zzi Zos Yca Yfe Yg4 Zxs Yi3 Yfy Zrx Yhp Yeu Zq2 Ybu Ygn Zsg Ztq Zsw Yip Yda Yfs Zsl Yhh Ylo Ypa Ybi Ymy Yp4 Zy1 Ynn Yj9 Zrt Ygz Ymm Zxq Zyu Yo4 Yp3 Yh0 Ync Yuv Yuw Yjg Yno Ya3 Yi2 Yd0 Zz9 Znd Znk Zz8 Yar Yjt Yl1 Ymg Yel Zs1 Yge Yh2 Ydn Yik Zx0 Zri Zrs Zp5 Zws Zyd Znf Yfn Zzz Yfc Yfk Ycb Ye8 Yvm Yvl Yr5 Yq0 Yqd Ynh Yo1 Yjx Ym1 Yur Ysc Yqt Yts Ysu Ys6 Ysk Yss Ytt Ysx Yql Ylt Yl3 Yi0 Ygl Zyk Ym9 Zwg Zsm Zt3 Ywu Yuz Yt6 Yox Zrl Ygk Yrn Ytu Ypt Yq1 Yq2 Yrl Yng Ysw Yln Ysd Ygu Yu9 Zyx Yut Ymb Zzt Yw2 Yli Yw9 Zxl Ysl Zv0 Yj4 Yih Zx9 Yj6 Zzr Zyl Zz4 Yjn Zmx Ydj Zgt Yrx Yqu Ysg Yle Yqs Ywg Yw3 Ylc Yos Ypd Yp8 Ynx Yav Ygp Yk2 Ybl Zx2 Yla Yff Yuo Yuy Yuu Yrs Ywj Yqy Yg8 Yrt Yu4 Ytg Ysh Yqe Yjl Ytb Yj2 Ytw Ylk Yw7 Yp2 Zow Yt9 Ymn Ywt Yra Yw1 Ywo Ywy Ywk e_un Yf2 Yte Yww Zsc Ynm Zrq Ylh Zsu Yp9 Yic Ztx Yhz Ym5 Zyn Yeb Ym3 Ywz Yfg Yqw Yfb Ydx Yux Yd3 Zzm Ybr Yn5 Yp5 Yue Ygi Ywf Ypm Yr8 Ysj Ykw Ys4 Ysy Yun Ys2 Yrr Yma Yo5 Yt1 Yph Ysv Yqb Yps Ywp Yvq Yqr Ycc Yrj Ytm Yme Yk0 Ynd Yny Yjr Ylr Yhm Yhx Zhc Zmn Zxk Yhg Yds Ydl Ygj Ykz Ymw Zx1 Ygh Yee Zyo Yed Yl6 Ynp Yua Yqz Ylu Yoc Yro Ysi Ypn Ynz Ypf Yuf Ysm Yai Ys9 Yq8 Ytl Yl2 Yqp Ylb Zcx Yu6 Ypq Yvi Ypg Yx1 Yru Zm0 Yw5 Yt2 Zyi Yif Yx7 Yo2 Ytx Yuj Yqm Ym2 Ypv Yq7 Zba Zb2 Zad
attribute [go_sem] Option.bind_some Option.map_some Option.bind_none Option.map_none Option.join_some List.getD_cons_zero List.getD_cons_succ List.set_cons_zero List.set_cons_succ List.length_cons List.length_nil List.all_cons List.all_nil Bool.and_true Bool.true_and Bool.and_false Bool.false_and Bool.or_true Bool.or_false Bool.false_or Bool.true_or and_self if_true if_false Bool.false_eq_true Bool.true_eq_false true_implies false_implies and_true true_and and_false false_and forall_const reduceCtorEq List.nil_append List.replicate_zero List.replicate_succ List.cons_append Nat.lt_irrefl List.getElem?_cons_zero List.getElem?_cons_succ List.getElem?_nil Option.getD_some Option.getD_none List.drop_zero List.drop_succ_cons List.head?_cons ne_eq not_false_eq_true not_true_eq_false List.take_succ_cons List.take_zero List.map_cons List.map_nil List.mapM_cons List.mapM_nil Option.pure_def Option.bind_eq_bind Option.some.injEq exists_eq_left' exists_eq_left or_true true_or or_false false_or beq_self_eq_true decide_true decide_false Bool.not_true Bool.not_false Option.isSome_some Option.isSome_none Option.map_map Nat.zero_add Nat.add_zero
theorem Yn1 {n:Nat}:AVal.low n .anyb=True:=(Eq.refl _).trans rfl
attribute [go_sem] Yn1 Yvz Yq9 Yrc Ykx Ytv Yb0 Yc6 Yie Yi1 Ys7 Yst Ygw Ype Ynj Yx0 Yqi Yus Yso Yf8 Ynl Ywi Ywl Ywv
attribute [go_sem] Ytk Yjw Ymh Yr4 Yvn Ypj Ywx Yfw Yud Zxn Ydk Ykv Yht Zys Yo3 Zxa Yag Ynf Ymr Yo8 Yw8 Ywd Zz6 Ytj Zox Yvp Yui Yfx Yi8
attribute [go_sem low] Ye0 Ybn Yqv Yr0
@[go_sem] theorem Yvu:roomN 0=6000000000000:=rfl
@[go_sem] theorem Yx5:roomN 1=6000000000000:=rfl
@[go_sem] theorem Yvw:roomN 2=6000000000000:=rfl
@[go_sem] theorem Yx4:roomN 4=6000000000000:=rfl
@[go_sem] theorem Yvx:roomN 8=6000000000000:=rfl
@[go_sem] theorem Yvc:roomN 16=6000000000000:=rfl
@[go_sem] theorem Yv9:roomN 24=6000000000000:=rfl
@[go_sem] theorem Yv2:roomN 32=6000000000000:=rfl
@[go_sem] theorem Yvd:roomN 40=1000000000:=rfl
@[go_sem] theorem Yvf:roomN 48=1000000000:=rfl
@[go_sem] theorem Yva:roomN 56=1000000000:=rfl
@[go_sem] theorem Yvb:roomN 64=1000000000:=rfl
@[go_sem] theorem Yv8:roomN 72=1000000000:=rfl
@[go_sem] theorem Yvg:roomN 80=1000000000:=rfl
@[go_sem] theorem Yve:roomN 88=1000000000:=rfl
@[go_sem] theorem Yv3:roomN 96=1000000000:=rfl
@[go_sem] theorem Yqo:roomN 104=1000000000:=rfl
@[go_sem] theorem Ysf:roomN 112=1000000000:=rfl
@[go_sem] theorem Ysr:roomN 120=1000000000:=rfl
@[go_sem] theorem Yum:roomN 128=1000000000:=rfl
@[go_sem] theorem Ypy:roomN 136=1000000000:=rfl
@[go_sem] theorem Yrg:roomN 144=1000000000:=rfl
@[go_sem] theorem Yqa:roomN 152=1000000000:=rfl
@[go_sem] theorem Ytq:roomN 160=1000000000:=rfl
@[go_sem] theorem Yt5:roomN 168=1000000000:=rfl
@[go_sem] theorem Yuq:roomN 176=1000000000:=rfl
@[go_sem] theorem Ypk:roomN 184=1000000000:=rfl
@[go_sem] theorem Yt3:roomN 192=1000000000:=rfl
@[go_sem] theorem Yrw:roomN 200=1000000000:=rfl
@[go_sem] theorem Yt7:roomN 208=1000000000:=rfl
@[go_sem] theorem Yup:roomN 216=1000000000:=rfl
@[go_sem] theorem Yrf:roomN 224=1000000000:=rfl
@[go_sem] theorem Ytd:roomN 232=1000000000:=rfl
@[go_sem] theorem Yu5:roomN 240=1000000000:=rfl
@[go_sem] theorem Ypx:roomN 248=1000000000:=rfl
@[go_sem] theorem Yr6:roomN 256=1000000000:=rfl
@[go_sem] theorem Yse:roomN 264=1000000000:=rfl
@[go_sem] theorem Ypw:roomN 272=1000000000:=rfl
@[go_sem] theorem Yre:roomN 280=1000000000:=rfl
@[go_sem] theorem Ysn:roomN 288=1000000000:=rfl
@[go_sem] theorem Yr3:roomN 296=1000000000:=rfl
@[go_sem] theorem Yu1:roomN 304=1000000000:=rfl
@[go_sem] theorem Ytr:roomN 312=1000000000:=rfl
@[go_sem] theorem Ys8:roomN 320=1000000000:=rfl
@[go_sem] theorem Yrm:roomN 328=1000000000:=rfl
@[go_sem] theorem Ysq:roomN 336=1000000000:=rfl
@[go_sem] theorem Yty:roomN 344=1000000000:=rfl
@[go_sem] theorem Ys5:roomN 352=1000000000:=rfl
@[go_sem] theorem Yu8:roomN 360=1000000000:=rfl
@[go_sem] theorem Yqg:roomN 368=1000000000:=rfl
@[go_sem] theorem Ypl:roomN 376=1000000000:=rfl
@[go_sem] theorem Ys0:roomN 384=1000000000:=rfl
@[go_sem] theorem Yrb:roomN 392=1000000000:=rfl
@[go_sem] theorem Yrp:roomN 400=1000000000:=rfl
end Go.Abs
