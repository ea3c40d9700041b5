/- Part 19 of my own framework and of the walks of functions: AbsT. -/
import Derived.Test.YtpgnahcljlclcaaGreatOwn18
set_option linter.unusedVariables false
set_option linter.unusedSectionVars false
set_option linter.unusedSimpArgs false
namespace Go.Abs
open Go
section
variable {P:Program} {lo:Ctx} {Q:AExit→St→Prop} {n:Nat} {k:List KI} {tm:List AVal} {σ:Store} {all:Array Oper} {l:List Oper}
theorem Yav {ι:Type} {I : ι→List AVal} {S : ι→Store} {μ : ι→Nat} {x : ι} {s:St}:loopQ P lo Q k I S μ x .normal s = ∃ y,leSt (I y) (S y) s∧μ y < μ x:=(Eq.refl _).trans rfl
theorem Yp4 {ι:Type} {I : ι→List AVal} {S : ι→Store} {μ : ι→Nat} {x : ι} {s:St} {i:Nat}:loopQ P lo Q k I S μ x (.exit i) s=EvK P lo Q k (.exit i) s:=(Eq.refl _).trans rfl
theorem Ym7 {ι:Type} {I : ι→List AVal} {S : ι→Store} {μ : ι→Nat} {x : ι} {s:St} {i:Nat}:loopQ P lo Q k I S μ x (.goto i) s=EvK P lo Q k (.goto i) s:=(Eq.refl _).trans rfl
theorem Yr2 {ι:Type} {I : ι→List AVal} {S : ι→Store} {μ : ι→Nat} {x : ι} {s:St}:loopQ P lo Q k I S μ x .ret s=EvK P lo Q k .ret s:=(Eq.refl _).trans rfl
theorem Yac {rs:List ResultVar} {K:AVal→Store→Prop} {s:St}:retQ P rs K .normal s = ∃ r,resultsA P s rs=some r∧K r s.σ:=(Eq.refl _).trans rfl
theorem Yqs {rs:List ResultVar} {K:AVal→Store→Prop} {s:St}:retQ P rs K .ret s = ∃ r,resultsA P s rs=some r∧K r s.σ:=(Eq.refl _).trans rfl
theorem Yht {ι:Type} {I : ι→List AVal} {S : ι→Store} {μ : ι→Nat} {x : ι} {s:St} {u:Value}:loopQ P lo Q k I S μ x (.panic u) s=EvK P lo Q k (.panic u) s:=(Eq.refl _).trans rfl
theorem Yu0 {r r0:AVal}:isT r r0 σ=pT (fun _=>true) σ r r0:=(Eq.refl _).trans rfl
theorem Ylg {r:ResultVar} {tm:List AVal}:resultsA P ⟨tm,σ⟩ [r]=resA tm σ P r:=by
 simp only [resultsA,List.mapM_cons,List.mapM_nil]
 cases resA tm σ P r<;>rfl
theorem Yge {tm:List AVal}:resultsA P ⟨tm,σ⟩ []=some (.tup []):=(Eq.refl _).trans rfl
theorem Yof {r r':ResultVar} {rs:List ResultVar} {tm:List AVal}:resultsA P ⟨tm,σ⟩ (r :: r' :: rs)=((r :: r' :: rs).mapM (resA tm σ P)).map .tup:=by
 simp only [resultsA,List.mapM_cons]
 cases resA tm σ P r with
 | none=>rfl
 | some a=>cases resA tm σ P r' with
  | none=>rfl
  | some b=>cases List.mapM (resA tm σ P) rs<;>rfl
theorem Ym6 {t:Tmp} {tm:List AVal}:resA tm σ P (.tmp t)=some (tm.getD t .undef):=(Eq.refl _).trans rfl
theorem Yfs {a:Tmp} {t:TypeId} {tm:List AVal}:resA tm σ P (.cell a t)=(layOf P t).bind fun l=>loadA σ l (tm.getD a .undef):=(Eq.refl _).trans rfl
theorem Yo2 {tm':List AVal} {σ':Store}:leSt tm' σ' ⟨tm,σ⟩=(leTm tm' tm∧leSo σ' σ∧lowL σ'.length tm'∧lowSo σ'.length σ'):=(Eq.refl _).trans rfl
theorem Yjk:leTm [] []=True:=(Eq.refl _).trans rfl
theorem Zwv {b:AVal} {as_ bs:List AVal}:leTm (.undef :: as_) (b :: bs)=leTm as_ bs:=by simp [leTm]
theorem Yc5 {a:AVal} {as_ bs:List AVal}:leTm (a :: as_) (a :: bs)=leTm as_ bs:=by simp [leTm]
theorem Yex {a b:AVal} {as_ bs:List AVal}:leTm (a :: as_) (b :: bs)=((a=b∨a = .undef)∧leTm as_ bs):=(Eq.refl _).trans rfl
theorem Ygs:leSo [] σ=True:=(Eq.refl _).trans rfl
theorem Zzy {a b:Option Blk} {as_ bs:Store}:leSo (a :: as_) (b :: bs)=((a=b∨a=none)∧leSo as_ bs):=(Eq.refl _).trans rfl
theorem Zpm {b:Option Blk} {as_ bs:Store}:leSo (none :: as_) (b :: bs)=leSo as_ bs:=by simp [leSo]
theorem Zpx {a:Option Blk} {as_ bs:Store}:leSo (a :: as_) (a :: bs)=leSo as_ bs:=by simp [leSo]
theorem Zh0 {n:Nat}:lowSo n []=True:=(Eq.refl _).trans rfl
theorem Zmn {n:Nat}:lowSo n (none :: σ)=lowSo n σ:=by simp [lowSo,lowO]
theorem Zwh {n:Nat} {b:Blk}:lowSo n (some b :: σ)=(b.low n∧lowSo n σ):=(Eq.refl _).trans rfl
theorem Yhi {n:Nat}:lowL n []=True:=(Eq.refl _).trans rfl
theorem Ydc {n:Nat} {a:AVal} {as_:List AVal}:lowL n (a :: as_)=(a.low n∧lowL n as_):=(Eq.refl _).trans rfl
theorem Yec {n:Nat}:AVal.low n .undef=True:=(Eq.refl _).trans rfl
theorem Yj9 {n:Nat} {b:Bool}:AVal.low n (.bool b)=True:=(Eq.refl _).trans rfl
theorem Ymn {n:Nat} {k:IntKind} {i:Int}:AVal.low n (.int k i)=True:=(Eq.refl _).trans rfl
theorem Ylm {n:Nat} {s:ByteArray}:AVal.low n (.str s)=True:=(Eq.refl _).trans rfl
theorem Zxu {n:Nat}:AVal.low n .nilptr=True:=(Eq.refl _).trans rfl
theorem Yii {n:Nat}:AVal.low n .nils=True:=(Eq.refl _).trans rfl
theorem Ycc {n:Nat}:AVal.low n .nilfn=True:=(Eq.refl _).trans rfl
theorem Zya {n:Nat}:AVal.low n .nilmap=True:=(Eq.refl _).trans rfl
theorem Yd7 {n:Nat}:AVal.low n .nilif=True:=(Eq.refl _).trans rfl
theorem Yll {n:Nat} {v:Value}:AVal.low n (.opq v)=True:=(Eq.refl _).trans rfl
theorem Yku {n b o:Nat}:AVal.low n (.ptr b o)=(b<n):=(Eq.refl _).trans rfl
theorem Ysj {n b i f:Nat}:AVal.low n (.rp b i f)=(b<n):=(Eq.refl _).trans rfl
theorem Yq7 {n b o m s:Nat}:AVal.low n (.os b o m s)=(b<n):=(Eq.refl _).trans rfl
theorem Yt1 {n b o m c s:Nat}:AVal.low n (.oc b o m c s)=(b<n):=(Eq.refl _).trans rfl
theorem Yn6 {n b:Nat}:AVal.low n (.yld b)=(b<n):=(Eq.refl _).trans rfl
theorem Yme {n b:Nat}:AVal.low n (.map b)=(b<n):=(Eq.refl _).trans rfl
theorem Yq2 {n b:Nat}:AVal.low n (.it b)=(b<n):=(Eq.refl _).trans rfl
theorem Yql {n:Nat} {cs:List AVal}:AVal.low n (.pp cs)=lowL n cs:=(Eq.refl _).trans rfl
theorem Yq8 {n s:Nat} {cs:List AVal}:AVal.low n (.ps s cs)=lowL n cs:=(Eq.refl _).trans rfl
theorem Yn3 {n:Nat} {cs:List AVal}:AVal.low n (.agg cs)=lowL n cs:=(Eq.refl _).trans rfl
theorem Yn2 {n:Nat} {cs:List AVal}:AVal.low n (.tup cs)=lowL n cs:=(Eq.refl _).trans rfl
theorem Yud {n:Nat} {f:FuncId} {a c:List AVal}:AVal.low n (.fn f a c)=(lowL n a∧lowL n c):=(Eq.refl _).trans rfl
theorem Ysy {n:Nat} {a c:List AVal}:AVal.low n (.pm a c)=(lowL n a∧lowL n c):=(Eq.refl _).trans rfl
theorem Yd5 {n:Nat} {t:TypeId} {v:AVal}:AVal.low n (.iface t v)=v.low n:=(Eq.refl _).trans rfl
theorem Yta {n:Nat} {cs:List AVal}:Blk.low n (.var cs)=lowL n cs:=(Eq.refl _).trans rfl
theorem Yqu {n fz:Nat} {cs:List AVal}:Blk.low n (.row cs fz)=lowL n cs:=(Eq.refl _).trans rfl
theorem Yq3 {n:Nat} {a c:List AVal} {f:Bool}:Blk.low n (.map a c f)=(lowL n a∧lowL n c):=(Eq.refl _).trans rfl
theorem Ysn {n:Nat} {ks vs:List AVal} {s:List Nat}:Blk.low n (.mit ks vs s)=(lowL n ks∧lowL n vs):=(Eq.refl _).trans rfl
theorem Yl4 {n pos:Nat} {s:ByteArray}:Blk.low n (.iter s pos)=True:=(Eq.refl _).trans rfl
theorem Yo8 {F:Nat→Bool}:pTL F σ [] []=True:=by simp [pTL]
theorem Zcz {F:Nat→Bool} {t a:AVal} {ts as_:List AVal}:pTL F σ (t :: ts) (a :: as_)=(pT F σ t a∧pTL F σ ts as_):=by simp [pTL]
theorem Yfu {F:Nat→Bool} {ts:List AVal}:pTL F σ ts ts=True:=eq_true (Za1 F σ ts)
theorem Ynf {F:Nat→Bool} {t:AVal}:pT F σ t t=True:=eq_true (Zb4 F σ t)
theorem Ypr {F:Nat→Bool} {cs cs':List AVal}:pT F σ (.agg cs') (.agg cs)=pTL F σ cs' cs:=by simp [pT]
theorem Yro {F:Nat→Bool} {cs cs':List AVal}:pT F σ (.tup cs') (.tup cs)=pTL F σ cs' cs:=by simp [pT]
theorem Yvc {F:Nat→Bool} {cs cs':List AVal}:pT F σ (.pp cs') (.pp cs)=pTL F σ cs' cs:=by simp [pT]
theorem Yor {F:Nat→Bool} {s:Nat} {ts:List AVal}:pT F σ (.ps s ts) .nils=(ts=[]):=by simp [pT]
theorem Yvg {F:Nat→Bool} {s s':Nat} {ts es:List AVal}:pT F σ (.ps s ts) (.ps s' es)=(s'=s∧pTL F σ ts es):=by simp [pT]
def pTrow (F:Nat→Bool) (σ:Store) (ts:List AVal) (off n:Nat):Option Blk→Prop
 | some (.row es _)=>off+n≤es.length∧pTL F σ ts ((es.drop off).take n)
 | _=>False
theorem Yt5 {F:Nat→Bool} {s s' b off n:Nat} {ts:List AVal}:pT F σ (.ps s ts) (.os b off n s')=(s'=s∧F b=true∧pTrow F σ ts off n (getS σ b)):=by
 simp only [pT,pTrow];cases getS σ b with | none=>rfl | some x=>cases x<;>rfl
theorem Zm9 {F:Nat→Bool} {ts es:List AVal} {off n fz:Nat}:pTrow F σ ts off n (some (.row es fz))=(off+n≤es.length∧pTL F σ ts ((es.drop off).take n)):=(Eq.refl _).trans rfl
theorem Yvh {F:Nat→Bool} {a b c d:List AVal}:pT F σ (.pm a b) (.pm c d)=(pTL F σ a c∧pTL F σ b d):=by simp [pT]
def pTmap (F:Nat→Bool) (σ:Store) (a b:List AVal):Option Blk→Prop
 | some (.map ks vs _)=>pTL F σ a ks∧pTL F σ b vs
 | _=>False
theorem Yu7 {F:Nat→Bool} {a b:List AVal} {m:Nat}:pT F σ (.pm a b) (.map m)=(F m=true∧pTmap F σ a b (getS σ m)):=by
 simp only [pT,pTmap];cases getS σ m with | none=>rfl | some x=>cases x<;>rfl
theorem Zwz {F:Nat→Bool} {a b ks vs:List AVal} {f:Bool}:pTmap F σ a b (some (.map ks vs f))=(pTL F σ a ks∧pTL F σ b vs):=(Eq.refl _).trans rfl
theorem Yj8 {F:Nat→Bool} {t t':TypeId} {a b:AVal}:pT F σ (.iface t' a) (.iface t b)=(t'=t∧pT F σ a b):=by simp [pT]
theorem Yw7 {F:Nat→Bool} {f f':FuncId} {a b c d:List AVal}:pT F σ (.fn f' a b) (.fn f c d)=(f'=f∧pTL F σ a c∧pTL F σ b d):=by simp [pT]
theorem Yls {F:Nat→Bool} {b:Bool} {a:AVal}:pT F σ (.bool b) a=(a = .bool b):=by simp [pT]
theorem Yqz {F:Nat→Bool} {k:IntKind} {i:Int} {a:AVal}:pT F σ (.int k i) a=(a = .int k i):=by simp [pT]
theorem Yry {F:Nat→Bool} {s:ByteArray} {a:AVal}:pT F σ (.str s) a=(a = .str s):=by simp [pT]
theorem Ypg {F:Nat→Bool} {i:Nat}:frzI F i []=[]:=(Eq.refl _).trans rfl
theorem Ykr {F:Nat→Bool} {i:Nat} {b:Option Blk} {σ:Store}:frzI F i (b :: σ)=(if F i=true then frzO b else b) :: frzI F (i+1) σ:=(Eq.refl _).trans rfl
theorem Ytc {es:List AVal} {fz:Nat}:frzO (some (.row es fz))=some (.row es (max fz es.length)):=(Eq.refl _).trans rfl
theorem Yte {ks vs:List AVal} {f:Bool}:frzO (some (.map ks vs f))=some (.map ks vs true):=(Eq.refl _).trans rfl
theorem Zbc {b:Nat}:among [] b=false:=(Eq.refl _).trans rfl
theorem Zb2 {a b:Nat} {bs:List Nat}:among (a :: bs) b=(a==b||among bs b):=by simp [among]
end
section
variable {P:Program} {lo:Ctx} {Q:AExit→St→Prop} {n:Nat} {k:List KI} {tm:List AVal} {σ:Store} {all:Array Oper} {l:List Oper} {d:Option Tmp} {tt:TypeId} {ps:String} {af:Array Edge} {gg:Option (Nat×Bool)}
theorem Zxl {bi:Builtin} {args:Array Operand} {ts:Array TypeId}:goO P lo Q (n+1) ⟨d, .call ⟨.builtin bi,args,ts⟩,tt,ps,af,gg⟩ all l k tm σ=goR P lo Q n (opE P σ σ.length (ev tm) (.call ⟨.builtin bi,args,ts⟩)) d all l k tm:=(Eq.refl _).trans rfl
theorem Ykz {f:FuncId} {a c:Array Operand}:goO P lo Q (n+1) ⟨d, .makeFunc (.func f) a c,tt,ps,af,gg⟩ all l k tm σ=goR P lo Q n (opE P σ σ.length (ev tm) (.makeFunc (.func f) a c)) d all l k tm:=(Eq.refl _).trans rfl
theorem Ylx {x:Operand}:goO P lo Q (n+1) ⟨d, .move x,tt,ps,af,gg⟩ all l k tm σ=goR P lo Q n (opE P σ σ.length (ev tm) (.move x)) d all l k tm:=(Eq.refl _).trans rfl
theorem Yat {x:Operand}:goO P lo Q (n+1) ⟨d, .assign x,tt,ps,af,gg⟩ all l k tm σ=goR P lo Q n (opE P σ σ.length (ev tm) (.assign x)) d all l k tm:=(Eq.refl _).trans rfl
theorem Yno {x:Operand} {y:Operand} {z:Operand}:goO P lo Q (n+1) ⟨d, .pick x y z,tt,ps,af,gg⟩ all l k tm σ=goR P lo Q n (opE P σ σ.length (ev tm) (.pick x y z)) d all l k tm:=(Eq.refl _).trans rfl
theorem Yhb {t:TypeId}:goO P lo Q (n+1) ⟨d, .alloc t,tt,ps,af,gg⟩ all l k tm σ=goR P lo Q n (opE P σ σ.length (ev tm) (.alloc t)) d all l k tm:=(Eq.refl _).trans rfl
theorem Ypz {t:TypeId} {x:Operand}:goO P lo Q (n+1) ⟨d, .box t x,tt,ps,af,gg⟩ all l k tm σ=goR P lo Q n (opE P σ σ.length (ev tm) (.box t x)) d all l k tm:=(Eq.refl _).trans rfl
theorem Yf2 {t:TypeId} {pp:Array (Nat×Operand)}:goO P lo Q (n+1) ⟨d, .build t pp,tt,ps,af,gg⟩ all l k tm σ=goR P lo Q n (opE P σ σ.length (ev tm) (.build t pp)) d all l k tm:=(Eq.refl _).trans rfl
theorem Znn {t:TypeId} {m:Nat} {pp:Array (Nat×Operand)}:goO P lo Q (n+1) ⟨d, .buildSlice t m pp,tt,ps,af,gg⟩ all l k tm σ=goR P lo Q n (opE P σ σ.length (ev tm) (.buildSlice t m pp)) d all l k tm:=(Eq.refl _).trans rfl
theorem Yox {t:TypeId} {x:Operand}:goO P lo Q (n+1) ⟨d, .load t x,tt,ps,af,gg⟩ all l k tm σ=goR P lo Q n (opE P σ σ.length (ev tm) (.load t x)) d all l k tm:=(Eq.refl _).trans rfl
theorem Yfi {t:TypeId} {x:Operand} {y:Operand}:goO P lo Q (n+1) ⟨d, .store t x y,tt,ps,af,gg⟩ all l k tm σ=goR P lo Q n (opE P σ σ.length (ev tm) (.store t x y)) d all l k tm:=(Eq.refl _).trans rfl
theorem Zta {x:Operand}:goO P lo Q (n+1) ⟨d, .nilCheck x,tt,ps,af,gg⟩ all l k tm σ=goR P lo Q n (opE P σ σ.length (ev tm) (.nilCheck x)) d all l k tm:=(Eq.refl _).trans rfl
theorem Yie {op:BinOp} {t:TypeId} {x:Operand} {y:Operand} {u:TypeId}:goO P lo Q (n+1) ⟨d, .binOp op t x y u,tt,ps,af,gg⟩ all l k tm σ=goR P lo Q n (opE P σ σ.length (ev tm) (.binOp op t x y u)) d all l k tm:=(Eq.refl _).trans rfl
theorem Yp5 {uo:UnOp} {t:TypeId} {x:Operand}:goO P lo Q (n+1) ⟨d, .unOp uo t x,tt,ps,af,gg⟩ all l k tm σ=goR P lo Q n (opE P σ σ.length (ev tm) (.unOp uo t x)) d all l k tm:=(Eq.refl _).trans rfl
theorem Zx0 {t:TypeId} {u:TypeId} {x:Operand}:goO P lo Q (n+1) ⟨d, .convert t u x,tt,ps,af,gg⟩ all l k tm σ=goR P lo Q n (opE P σ σ.length (ev tm) (.convert t u x)) d all l k tm:=(Eq.refl _).trans rfl
theorem Ziw {t:TypeId} {x:Operand}:goO P lo Q (n+1) ⟨d, .makeInterface t x,tt,ps,af,gg⟩ all l k tm σ=goR P lo Q n (opE P σ σ.length (ev tm) (.makeInterface t x)) d all l k tm:=(Eq.refl _).trans rfl
theorem Yi4 {t:TypeId} {x:Operand} {ox:Option Operand} {oy:Option Operand} {oz:Option Operand}:goO P lo Q (n+1) ⟨d, .slice t x ox oy oz,tt,ps,af,gg⟩ all l k tm σ=goR P lo Q n (opE P σ σ.length (ev tm) (.slice t x ox oy oz)) d all l k tm:=(Eq.refl _).trans rfl
theorem Zp8 {t:TypeId} {x:Operand} {m:Nat}:goO P lo Q (n+1) ⟨d, .fieldAddr t x m,tt,ps,af,gg⟩ all l k tm σ=goR P lo Q n (opE P σ σ.length (ev tm) (.fieldAddr t x m)) d all l k tm:=(Eq.refl _).trans rfl
theorem Ygf {t:TypeId} {x:Operand} {m:Nat}:goO P lo Q (n+1) ⟨d, .field t x m,tt,ps,af,gg⟩ all l k tm σ=goR P lo Q n (opE P σ σ.length (ev tm) (.field t x m)) d all l k tm:=(Eq.refl _).trans rfl
theorem Zqo {t:TypeId} {x:Operand} {y:Operand}:goO P lo Q (n+1) ⟨d, .indexAddr t x y,tt,ps,af,gg⟩ all l k tm σ=goR P lo Q n (opE P σ σ.length (ev tm) (.indexAddr t x y)) d all l k tm:=(Eq.refl _).trans rfl
theorem Yig {t:TypeId} {x:Operand} {y:Operand}:goO P lo Q (n+1) ⟨d, .index t x y,tt,ps,af,gg⟩ all l k tm σ=goR P lo Q n (opE P σ σ.length (ev tm) (.index t x y)) d all l k tm:=(Eq.refl _).trans rfl
theorem Ycw {t:TypeId} {x:Operand} {y:Operand} {b:Bool}:goO P lo Q (n+1) ⟨d, .lookup t x y b,tt,ps,af,gg⟩ all l k tm σ=goR P lo Q n (opE P σ σ.length (ev tm) (.lookup t x y b)) d all l k tm:=(Eq.refl _).trans rfl
theorem Zp0 {t:TypeId} {x:Operand} {y:Operand} {z:Operand}:goO P lo Q (n+1) ⟨d, .mapUpdate t x y z,tt,ps,af,gg⟩ all l k tm σ=goR P lo Q n (opE P σ σ.length (ev tm) (.mapUpdate t x y z)) d all l k tm:=(Eq.refl _).trans rfl
theorem Zzv {t:TypeId} {x:Operand} {y:Operand} {z:Operand}:goO P lo Q (n+1) ⟨d, .insert t x y z,tt,ps,af,gg⟩ all l k tm σ=goR P lo Q n (opE P σ σ.length (ev tm) (.insert t x y z)) d all l k tm:=(Eq.refl _).trans rfl
theorem Yfk {t:TypeId} {x:Operand}:goO P lo Q (n+1) ⟨d, .range t x,tt,ps,af,gg⟩ all l k tm σ=goR P lo Q n (opE P σ σ.length (ev tm) (.range t x)) d all l k tm:=(Eq.refl _).trans rfl
theorem Yoi {x:Operand}:goO P lo Q (n+1) ⟨d, .next x true,tt,ps,af,gg⟩ all l k tm σ=goR P lo Q n (opE P σ σ.length (ev tm) (.next x true)) d all l k tm:=(Eq.refl _).trans rfl
theorem Yg3 {x:Operand}:goO P lo Q (n+1) ⟨d, .entry x,tt,ps,af,gg⟩ all l k tm σ=goR P lo Q n (opE P σ σ.length (ev tm) (.entry x)) d all l k tm:=(Eq.refl _).trans rfl
theorem Ygk {x:Operand}:goO P lo Q (n+1) ⟨d, .next x false,tt,ps,af,gg⟩ all l k tm σ=nextQ (ev tm x) σ fun r σ'=>EvK P lo Q (.ops all l :: k) .normal ⟨put tm d r,σ'⟩:=(Eq.refl _).trans rfl
theorem Zo2 {x:Operand} {t:TypeId} {u:TypeId} {b:Bool}:goO P lo Q (n+1) ⟨d, .typeAssert x t u b,tt,ps,af,gg⟩ all l k tm σ=goR P lo Q n (opE P σ σ.length (ev tm) (.typeAssert x t u b)) d all l k tm:=(Eq.refl _).trans rfl
theorem Zwc {x:Operand} {m:Nat}:goO P lo Q (n+1) ⟨d, .extract x m,tt,ps,af,gg⟩ all l k tm σ=goR P lo Q n (opE P σ σ.length (ev tm) (.extract x m)) d all l k tm:=(Eq.refl _).trans rfl
theorem Zoj {t:TypeId} {x:Operand} {y:Operand}:goO P lo Q (n+1) ⟨d, .makeSlice t x y,tt,ps,af,gg⟩ all l k tm σ=goR P lo Q n (opE P σ σ.length (ev tm) (.makeSlice t x y)) d all l k tm:=(Eq.refl _).trans rfl
theorem Zwm {t:TypeId} {ox:Option Operand}:goO P lo Q (n+1) ⟨d, .makeMap t ox,tt,ps,af,gg⟩ all l k tm σ=goR P lo Q n (opE P σ σ.length (ev tm) (.makeMap t ox)) d all l k tm:=(Eq.refl _).trans rfl
end
attribute [go_sem] Zxl Ykz Ylx Yat Yno Yhb Ypz Yf2 Znn Yox Yfi Zta Yie Yp5 Zx0 Ziw Yi4 Zp8 Ygf Zqo Yig Ycw Zp0 Zzv Yfk Yoi Ygk Yg3 Zo2 Zwc Zoj Zwm
theorem Yle {b:Bool}:gd2 true (some (.bool b))=some b:=by cases b<;>rfl
theorem Yru {b:Bool}:gd2 false (some (.bool b))=some (!b):=by cases b<;>rfl
theorem Ynh {x y:AVal}:pickA (.bool true) x y=some x:=by cases x<;>cases y<;>rfl
theorem Yi1 {x y:AVal}:pickA (.bool false) x y=some y:=by cases x<;>cases y<;>rfl
attribute [go_sem high] Yle Yru Ynh Yi1
attribute [go_sem high] Yt9 Yko Yth Yom Zwv Yc5 Zpx Zpm Yug Ynf Yfu
attribute [go_sem] Zvj Ywx Yrj Yw8 Ypi Ylr Yh5 Yst Yu2 Yvj Ymw Yl0 Yrz Zs4 Yue Ztr Zsv Zyd Ybq Zy9 Zqh Zzi Zwg Zxj Zqj Zz4 Zwq Ysh Ya6 R_if Yvp Zt0 Zxk Zq5 Zrl Yik Yjt Yg9 Yhq Yfq Ytr Yhs Ye2 Yld Yow Ytg Yrk Yb5 Yl6 Yd6 Yi3 Yiu Yfp Yia Ye0 Zot Zyx Ybe Zox Yaa Ygd Yfy Zxb Ygt Yid Ztz Yg8 Ybz Zrg Yd3 Yjg Zu1 Zt7 Zs8 Yhv Ydy Yhm Zss Yjn Ymz Yob Yen Yml Yma Zz0 Yop Yfo Zsa Yjv Ynm Zys Zxx Yng Ykq Yf4 Yo7 Ysl Ysa Yfc Ynr Yb6 Yg1 Yaz Yah Zn2 Zmu Ye1 Ydn Yjb Yn5 Ymu Zz7 Zrt Ygh Ygi Ydo Yhe Zyw Zpb Zrp Zoy Zxv Zwj Znj Yfj Ybi Yfd Yip Yd0 Yeb Ywv Yvn Yrc Ysi Yt8 Yoo Ym9 Yh1 Yne Ypo Yrp Ypm Ys1 Yrn Yss Ytd Yqm Ypp Ytk Yts Yp3 Yos Yhk Yg5 Zy1 Yp1 Zyg Zry Zsi Ywe Yr7 Yt6 Ynb Zt4 Yf9 Yq1 Yri Yuf Yr8 Yq0 Ys9 Ylk Yrr Yo5 Ytp Yfz Yui Zxi Yqe Ynn Ya4 Yw1 Ylt Ywq Zxc Yty Zvj Yi5 Yfx Zy2 Yhn Yam Zy0 Zx8 Ygg Zo1 Zz3 Zgy Yrg Ys6 Yq4 Yn4 Yrf Yvi Ywi Ykp Ynj Yny Yod Yo9 Ydx Yj6 Yh3 Ye3 Zxf Ypc Yg6 Yus Yqa Ytx Yrx Yw5 Yqo Yir Yub Yqh Yq6 Yu6 Ytz Yjr Yrm Yju Ypj Ynz Ywm Ymp Zqn Ysz Ynx Yvm Ysg Yvx Yvu Yvl Yx0 e_un Yc4 Yqp Ywo Zrq You Ztm Yms Zrs Ymr Yfa Ztb Yiy Ymc Zyq Ya2 Yoy Yw3 Ygz Ysq Yiq Yei Ysw Zzl Yej Yav Yp4 Ym7 Yr2 Yht Yw0 Yrw Yqi Ys4 Yly Ytq Yqd Yut Yt2 Yr1 Ymk Yp2 Ytw Yn7 Yrq Yra Yu4 Yvo Yvb Yto Yac Yqs Yu0 Ylg Yge Yof Ym6 Yfs Yo2 Yjk Ygs Zh0 Zmn Zwh Yhi Ydc Yec Yj9 Ymn Ylm Zxu Yii Ycc Zya Yd7 Yll Yku Ysj Yq7 Yn6 Yme Yq2 Yql Yq8 Yn3 Yn2 Yud Ysy Yd5 Yta Yqu Yq3 Yl4 Ysn Yo8 Zcz Ypr Yro Yvc Yor Yvg Yt5 Zm9 Yvh Yu7 Zwz Yj8 Yw7 Yls Yqz Yry Ypg Ykr Ytc Yte Zbc Zb2 Zad
attribute [go_sem] Option.bind_some Option.map_some Option.bind_none Option.map_none Option.join_some List.getD_cons_zero List.getD_cons_succ List.set_cons_zero List.set_cons_succ List.length_cons List.length_nil List.all_cons List.all_nil Bool.and_true Bool.true_and Bool.and_false Bool.false_and Bool.or_true Bool.or_false Bool.false_or Bool.true_or and_self if_true if_false Bool.false_eq_true Bool.true_eq_false true_implies false_implies and_true true_and and_false false_and forall_const reduceCtorEq List.nil_append List.replicate_zero List.replicate_succ List.cons_append Nat.lt_irrefl List.getElem?_cons_zero List.getElem?_cons_succ List.getElem?_nil Option.getD_some Option.getD_none List.drop_zero List.drop_succ_cons List.head?_cons ne_eq not_false_eq_true not_true_eq_false List.take_succ_cons List.take_zero List.map_cons List.map_nil List.mapM_cons List.mapM_nil Option.pure_def Option.bind_eq_bind Option.some.injEq exists_eq_left' exists_eq_left or_true true_or or_false false_or beq_self_eq_true decide_true decide_false Bool.not_true Bool.not_false Option.isSome_some Option.isSome_none Option.map_map Nat.zero_add Nat.add_zero
theorem Yn9 {n:Nat}:AVal.low n .anyb=True:=(Eq.refl _).trans rfl
attribute [go_sem] Yn9 Yvf Ysr Yr9 Yl3 Yph Yeh Yb2 Yhp Yhj Ypl Yti Yio Yo0 Yon Ywb Ysk Yt7 Ypt Yjm Yp0 Ywy Yvv Yvy
attribute [go_sem] Yt1 Yj1 Ym5 Yqb Ywa Yqk Ywn Yji Yrl Zwe Yed Ymi Ygy Zyc Ykt Zwn Ydl Ym1 Yp9 Yok Yww Yx1 Zxn Ypy Zq6 Ywk Ypk Ygq Yg4
attribute [go_sem low] Yex Zzy Ytv Ysp
@[go_sem] theorem Ywu:roomN 0=6000000000000:=rfl
@[go_sem] theorem Ywh:roomN 1=6000000000000:=rfl
@[go_sem] theorem Yvz:roomN 2=6000000000000:=rfl
@[go_sem] theorem Yws:roomN 4=6000000000000:=rfl
@[go_sem] theorem Ywt:roomN 8=6000000000000:=rfl
@[go_sem] theorem Yva:roomN 16=6000000000000:=rfl
@[go_sem] theorem Yv7:roomN 24=6000000000000:=rfl
@[go_sem] theorem Yv6:roomN 32=6000000000000:=rfl
@[go_sem] theorem Yv8:roomN 40=1000000000:=rfl
@[go_sem] theorem Yuy:roomN 48=1000000000:=rfl
@[go_sem] theorem Yv9:roomN 56=1000000000:=rfl
@[go_sem] theorem Yv2:roomN 64=1000000000:=rfl
@[go_sem] theorem Yv4:roomN 72=1000000000:=rfl
@[go_sem] theorem Yuv:roomN 80=1000000000:=rfl
@[go_sem] theorem Yv0:roomN 88=1000000000:=rfl
@[go_sem] theorem Yuw:roomN 96=1000000000:=rfl
@[go_sem] theorem Yt3:roomN 104=1000000000:=rfl
@[go_sem] theorem Ypv:roomN 112=1000000000:=rfl
@[go_sem] theorem Yqy:roomN 120=1000000000:=rfl
@[go_sem] theorem Yuj:roomN 128=1000000000:=rfl
@[go_sem] theorem Ysd:roomN 136=1000000000:=rfl
@[go_sem] theorem Ysc:roomN 144=1000000000:=rfl
@[go_sem] theorem Yul:roomN 152=1000000000:=rfl
@[go_sem] theorem Yqq:roomN 160=1000000000:=rfl
@[go_sem] theorem Ytl:roomN 168=1000000000:=rfl
@[go_sem] theorem Yrh:roomN 176=1000000000:=rfl
@[go_sem] theorem Ys2:roomN 184=1000000000:=rfl
@[go_sem] theorem Ypd:roomN 192=1000000000:=rfl
@[go_sem] theorem Yuh:roomN 200=1000000000:=rfl
@[go_sem] theorem Yrv:roomN 208=1000000000:=rfl
@[go_sem] theorem Yuu:roomN 216=1000000000:=rfl
@[go_sem] theorem Ys5:roomN 224=1000000000:=rfl
@[go_sem] theorem Ytf:roomN 232=1000000000:=rfl
@[go_sem] theorem Yt0:roomN 240=1000000000:=rfl
@[go_sem] theorem Yps:roomN 248=1000000000:=rfl
@[go_sem] theorem Yr4:roomN 256=1000000000:=rfl
@[go_sem] theorem Yse:roomN 264=1000000000:=rfl
@[go_sem] theorem Yrt:roomN 272=1000000000:=rfl
@[go_sem] theorem Yrb:roomN 280=1000000000:=rfl
@[go_sem] theorem Yqj:roomN 288=1000000000:=rfl
@[go_sem] theorem Ysu:roomN 296=1000000000:=rfl
@[go_sem] theorem Ypx:roomN 304=1000000000:=rfl
@[go_sem] theorem Ytj:roomN 312=1000000000:=rfl
@[go_sem] theorem Yuc:roomN 320=1000000000:=rfl
@[go_sem] theorem Ypq:roomN 328=1000000000:=rfl
@[go_sem] theorem Yre:roomN 336=1000000000:=rfl
@[go_sem] theorem Ytb:roomN 344=1000000000:=rfl
@[go_sem] theorem Ypf:roomN 352=1000000000:=rfl
@[go_sem] theorem Yso:roomN 360=1000000000:=rfl
@[go_sem] theorem Yq9:roomN 368=1000000000:=rfl
@[go_sem] theorem Ysb:roomN 376=1000000000:=rfl
@[go_sem] theorem Yqc:roomN 384=1000000000:=rfl
@[go_sem] theorem Yt4:roomN 392=1000000000:=rfl
@[go_sem] theorem Yr0:roomN 400=1000000000:=rfl
end Go.Abs
