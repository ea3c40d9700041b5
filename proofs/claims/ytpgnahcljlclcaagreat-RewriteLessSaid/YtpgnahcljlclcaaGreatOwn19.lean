/- Part 19 of my own framework and of the walks of functions: AbsT. -/
import Derived.Test.YtpgnahcljlclcaaGreatOwn18
set_option linter.unusedVariables false
set_option linter.unusedSectionVars false
set_option linter.unusedSimpArgs false
namespace Go.Abs
open Go
section
variable {P:Program} {lo:Ctx} {Q:AExit→St→Prop} {n:Nat} {k:List KI} {tm:List AVal} {σ:Store} {all:Array Oper} {l:List Oper}
theorem Yav {ι:Type} {I : ι→List AVal} {S : ι→Store} {μ : ι→Nat} {x : ι} {s:St}:loopQ P lo Q k I S μ x .normal s = ∃ y,leSt (I y) (S y) s∧μ y < μ x:=(Eq.refl _).trans rfl
theorem Ykh {ι:Type} {I : ι→List AVal} {S : ι→Store} {μ : ι→Nat} {x : ι} {s:St} {i:Nat}:loopQ P lo Q k I S μ x (.exit i) s=EvK P lo Q k (.exit i) s:=(Eq.refl _).trans rfl
theorem Ylc {ι:Type} {I : ι→List AVal} {S : ι→Store} {μ : ι→Nat} {x : ι} {s:St} {i:Nat}:loopQ P lo Q k I S μ x (.goto i) s=EvK P lo Q k (.goto i) s:=(Eq.refl _).trans rfl
theorem Yq7 {ι:Type} {I : ι→List AVal} {S : ι→Store} {μ : ι→Nat} {x : ι} {s:St}:loopQ P lo Q k I S μ x .ret s=EvK P lo Q k .ret s:=(Eq.refl _).trans rfl
theorem Zwm {rs:List ResultVar} {K:AVal→Store→Prop} {s:St}:retQ P rs K .normal s = ∃ r,resultsA P s rs=some r∧K r s.σ:=(Eq.refl _).trans rfl
theorem Yo7 {rs:List ResultVar} {K:AVal→Store→Prop} {s:St}:retQ P rs K .ret s = ∃ r,resultsA P s rs=some r∧K r s.σ:=(Eq.refl _).trans rfl
theorem Yg9 {ι:Type} {I : ι→List AVal} {S : ι→Store} {μ : ι→Nat} {x : ι} {s:St} {u:Value}:loopQ P lo Q k I S μ x (.panic u) s=EvK P lo Q k (.panic u) s:=(Eq.refl _).trans rfl
theorem Yr4 {r r0:AVal}:isT r r0 σ=pT (fun _=>true) σ r r0:=(Eq.refl _).trans rfl
theorem Ykn {r:ResultVar} {tm:List AVal}:resultsA P ⟨tm,σ⟩ [r]=resA tm σ P r:=by
 simp only [resultsA,List.mapM_cons,List.mapM_nil]
 cases resA tm σ P r<;>rfl
theorem Ygd {tm:List AVal}:resultsA P ⟨tm,σ⟩ []=some (.tup []):=(Eq.refl _).trans rfl
theorem Yki {r r':ResultVar} {rs:List ResultVar} {tm:List AVal}:resultsA P ⟨tm,σ⟩ (r :: r' :: rs)=((r :: r' :: rs).mapM (resA tm σ P)).map .tup:=by
 simp only [resultsA,List.mapM_cons]
 cases resA tm σ P r with
 | none=>rfl
 | some a=>cases resA tm σ P r' with
  | none=>rfl
  | some b=>cases List.mapM (resA tm σ P) rs<;>rfl
theorem Yk0 {t:Tmp} {tm:List AVal}:resA tm σ P (.tmp t)=some (tm.getD t .undef):=(Eq.refl _).trans rfl
theorem Yew {a:Tmp} {t:TypeId} {tm:List AVal}:resA tm σ P (.cell a t)=(layOf P t).bind fun l=>loadA σ l (tm.getD a .undef):=(Eq.refl _).trans rfl
theorem Ykp {tm':List AVal} {σ':Store}:leSt tm' σ' ⟨tm,σ⟩=(leTm tm' tm∧leSo σ' σ∧lowL σ'.length tm'∧lowSo σ'.length σ'):=(Eq.refl _).trans rfl
theorem Ycf:leTm [] []=True:=(Eq.refl _).trans rfl
theorem Zuz {b:AVal} {as_ bs:List AVal}:leTm (.undef :: as_) (b :: bs)=leTm as_ bs:=by simp [leTm]
theorem Zwo {a:AVal} {as_ bs:List AVal}:leTm (a :: as_) (a :: bs)=leTm as_ bs:=by simp [leTm]
theorem Zyy {a b:AVal} {as_ bs:List AVal}:leTm (a :: as_) (b :: bs)=((a=b∨a = .undef)∧leTm as_ bs):=(Eq.refl _).trans rfl
theorem Yfn:leSo [] σ=True:=(Eq.refl _).trans rfl
theorem Zwp {a b:Option Blk} {as_ bs:Store}:leSo (a :: as_) (b :: bs)=((a=b∨a=none)∧leSo as_ bs):=(Eq.refl _).trans rfl
theorem Zzy {b:Option Blk} {as_ bs:Store}:leSo (none :: as_) (b :: bs)=leSo as_ bs:=by simp [leSo]
theorem Zof {a:Option Blk} {as_ bs:Store}:leSo (a :: as_) (a :: bs)=leSo as_ bs:=by simp [leSo]
theorem Zgr {n:Nat}:lowSo n []=True:=(Eq.refl _).trans rfl
theorem Zwa {n:Nat}:lowSo n (none :: σ)=lowSo n σ:=by simp [lowSo,lowO]
theorem Zv5 {n:Nat} {b:Blk}:lowSo n (some b :: σ)=(b.low n∧lowSo n σ):=(Eq.refl _).trans rfl
theorem Yfz {n:Nat}:lowL n []=True:=(Eq.refl _).trans rfl
theorem Zzz {n:Nat} {a:AVal} {as_:List AVal}:lowL n (a :: as_)=(a.low n∧lowL n as_):=(Eq.refl _).trans rfl
theorem Ybq {n:Nat}:AVal.low n .undef=True:=(Eq.refl _).trans rfl
theorem Yd8 {n:Nat} {b:Bool}:AVal.low n (.bool b)=True:=(Eq.refl _).trans rfl
theorem Yl7 {n:Nat} {k:IntKind} {i:Int}:AVal.low n (.int k i)=True:=(Eq.refl _).trans rfl
theorem Yht {n:Nat} {s:ByteArray}:AVal.low n (.str s)=True:=(Eq.refl _).trans rfl
theorem Zw1 {n:Nat}:AVal.low n .nilptr=True:=(Eq.refl _).trans rfl
theorem Yda {n:Nat}:AVal.low n .nils=True:=(Eq.refl _).trans rfl
theorem Zwu {n:Nat}:AVal.low n .nilfn=True:=(Eq.refl _).trans rfl
theorem Zux {n:Nat}:AVal.low n .nilmap=True:=(Eq.refl _).trans rfl
theorem Yas {n:Nat}:AVal.low n .nilif=True:=(Eq.refl _).trans rfl
theorem Yh6 {n:Nat} {v:Value}:AVal.low n (.opq v)=True:=(Eq.refl _).trans rfl
theorem Yic {n b o:Nat}:AVal.low n (.ptr b o)=(b<n):=(Eq.refl _).trans rfl
theorem Yma {n b i f:Nat}:AVal.low n (.rp b i f)=(b<n):=(Eq.refl _).trans rfl
theorem Ypf {n b o m s:Nat}:AVal.low n (.os b o m s)=(b<n):=(Eq.refl _).trans rfl
theorem Yp5 {n b o m c s:Nat}:AVal.low n (.oc b o m c s)=(b<n):=(Eq.refl _).trans rfl
theorem Yij {n b:Nat}:AVal.low n (.yld b)=(b<n):=(Eq.refl _).trans rfl
theorem Yj9 {n b:Nat}:AVal.low n (.map b)=(b<n):=(Eq.refl _).trans rfl
theorem Ymk {n b:Nat}:AVal.low n (.it b)=(b<n):=(Eq.refl _).trans rfl
theorem Ym8 {n:Nat} {cs:List AVal}:AVal.low n (.pp cs)=lowL n cs:=(Eq.refl _).trans rfl
theorem Yoy {n s:Nat} {cs:List AVal}:AVal.low n (.ps s cs)=lowL n cs:=(Eq.refl _).trans rfl
theorem Yjc {n:Nat} {cs:List AVal}:AVal.low n (.agg cs)=lowL n cs:=(Eq.refl _).trans rfl
theorem Yjw {n:Nat} {cs:List AVal}:AVal.low n (.tup cs)=lowL n cs:=(Eq.refl _).trans rfl
theorem Ypg {n:Nat} {f:FuncId} {a c:List AVal}:AVal.low n (.fn f a c)=(lowL n a∧lowL n c):=(Eq.refl _).trans rfl
theorem Ypw {n:Nat} {a c:List AVal}:AVal.low n (.pm a c)=(lowL n a∧lowL n c):=(Eq.refl _).trans rfl
theorem Zz3 {n:Nat} {t:TypeId} {v:AVal}:AVal.low n (.iface t v)=v.low n:=(Eq.refl _).trans rfl
theorem Ypr {n:Nat} {cs:List AVal}:Blk.low n (.var cs)=lowL n cs:=(Eq.refl _).trans rfl
theorem Ym5 {n fz:Nat} {cs:List AVal}:Blk.low n (.row cs fz)=lowL n cs:=(Eq.refl _).trans rfl
theorem Yo1 {n:Nat} {a c:List AVal} {f:Bool}:Blk.low n (.map a c f)=(lowL n a∧lowL n c):=(Eq.refl _).trans rfl
theorem Yn5 {n:Nat} {ks vs:List AVal} {s:List Nat}:Blk.low n (.mit ks vs s)=(lowL n ks∧lowL n vs):=(Eq.refl _).trans rfl
theorem Yiq {n pos:Nat} {s:ByteArray}:Blk.low n (.iter s pos)=True:=(Eq.refl _).trans rfl
theorem Yhj {F:Nat→Bool}:pTL F σ [] []=True:=by simp [pTL]
theorem Zlu {F:Nat→Bool} {t a:AVal} {ts as_:List AVal}:pTL F σ (t :: ts) (a :: as_)=(pT F σ t a∧pTL F σ ts as_):=by simp [pTL]
theorem Ycr {F:Nat→Bool} {ts:List AVal}:pTL F σ ts ts=True:=eq_true (Za1 F σ ts)
theorem Yks {F:Nat→Bool} {t:AVal}:pT F σ t t=True:=eq_true (Zdm F σ t)
theorem Ymx {F:Nat→Bool} {cs cs':List AVal}:pT F σ (.agg cs') (.agg cs)=pTL F σ cs' cs:=by simp [pT]
theorem Yr5 {F:Nat→Bool} {cs cs':List AVal}:pT F σ (.tup cs') (.tup cs)=pTL F σ cs' cs:=by simp [pT]
theorem Ysz {F:Nat→Bool} {cs cs':List AVal}:pT F σ (.pp cs') (.pp cs)=pTL F σ cs' cs:=by simp [pT]
theorem Yj2 {F:Nat→Bool} {s:Nat} {ts:List AVal}:pT F σ (.ps s ts) .nils=(ts=[]):=by simp [pT]
theorem Ysf {F:Nat→Bool} {s s':Nat} {ts es:List AVal}:pT F σ (.ps s ts) (.ps s' es)=(s'=s∧pTL F σ ts es):=by simp [pT]
def pTrow (F:Nat→Bool) (σ:Store) (ts:List AVal) (off n:Nat):Option Blk→Prop
 | some (.row es _)=>off+n≤es.length∧pTL F σ ts ((es.drop off).take n)
 | _=>False
theorem Ymc {F:Nat→Bool} {s s' b off n:Nat} {ts:List AVal}:pT F σ (.ps s ts) (.os b off n s')=(s'=s∧F b=true∧pTrow F σ ts off n (getS σ b)):=by
 simp only [pT,pTrow];cases getS σ b with | none=>rfl | some x=>cases x<;>rfl
theorem Zl0 {F:Nat→Bool} {ts es:List AVal} {off n fz:Nat}:pTrow F σ ts off n (some (.row es fz))=(off+n≤es.length∧pTL F σ ts ((es.drop off).take n)):=(Eq.refl _).trans rfl
theorem Yrv {F:Nat→Bool} {a b c d:List AVal}:pT F σ (.pm a b) (.pm c d)=(pTL F σ a c∧pTL F σ b d):=by simp [pT]
def pTmap (F:Nat→Bool) (σ:Store) (a b:List AVal):Option Blk→Prop
 | some (.map ks vs _)=>pTL F σ a ks∧pTL F σ b vs
 | _=>False
theorem Yqy {F:Nat→Bool} {a b:List AVal} {m:Nat}:pT F σ (.pm a b) (.map m)=(F m=true∧pTmap F σ a b (getS σ m)):=by
 simp only [pT,pTmap];cases getS σ m with | none=>rfl | some x=>cases x<;>rfl
theorem Zvr {F:Nat→Bool} {a b ks vs:List AVal} {f:Bool}:pTmap F σ a b (some (.map ks vs f))=(pTL F σ a ks∧pTL F σ b vs):=(Eq.refl _).trans rfl
theorem Yce {F:Nat→Bool} {t t':TypeId} {a b:AVal}:pT F σ (.iface t' a) (.iface t b)=(t'=t∧pT F σ a b):=by simp [pT]
theorem Ysi {F:Nat→Bool} {f f':FuncId} {a b c d:List AVal}:pT F σ (.fn f' a b) (.fn f c d)=(f'=f∧pTL F σ a c∧pTL F σ b d):=by simp [pT]
theorem Yka {F:Nat→Bool} {b:Bool} {a:AVal}:pT F σ (.bool b) a=(a = .bool b):=by simp [pT]
theorem Ymh {F:Nat→Bool} {k:IntKind} {i:Int} {a:AVal}:pT F σ (.int k i) a=(a = .int k i):=by simp [pT]
theorem Yp0 {F:Nat→Bool} {s:ByteArray} {a:AVal}:pT F σ (.str s) a=(a = .str s):=by simp [pT]
theorem Ylo {F:Nat→Bool} {i:Nat}:frzI F i []=[]:=(Eq.refl _).trans rfl
theorem Yi0 {F:Nat→Bool} {i:Nat} {b:Option Blk} {σ:Store}:frzI F i (b :: σ)=(if F i=true then frzO b else b) :: frzI F (i+1) σ:=(Eq.refl _).trans rfl
theorem Ym4 {es:List AVal} {fz:Nat}:frzO (some (.row es fz))=some (.row es (max fz es.length)):=(Eq.refl _).trans rfl
theorem Ynt {ks vs:List AVal} {f:Bool}:frzO (some (.map ks vs f))=some (.map ks vs true):=(Eq.refl _).trans rfl
theorem Zb7 {b:Nat}:among [] b=false:=(Eq.refl _).trans rfl
theorem Zaz {a b:Nat} {bs:List Nat}:among (a :: bs) b=(a==b||among bs b):=by simp [among]
end
section
variable {P:Program} {lo:Ctx} {Q:AExit→St→Prop} {n:Nat} {k:List KI} {tm:List AVal} {σ:Store} {all:Array Oper} {l:List Oper} {d:Option Tmp} {tt:TypeId} {ps:String} {af:Array Edge} {gg:Option (Nat×Bool)}
theorem Zva {bi:Builtin} {args:Array Operand} {ts:Array TypeId}:goO P lo Q (n+1) ⟨d, .call ⟨.builtin bi,args,ts⟩,tt,ps,af,gg⟩ all l k tm σ=goR P lo Q n (opE P σ σ.length (ev tm) (.call ⟨.builtin bi,args,ts⟩)) d all l k tm:=(Eq.refl _).trans rfl
theorem Yhz {f:FuncId} {a c:Array Operand}:goO P lo Q (n+1) ⟨d, .makeFunc (.func f) a c,tt,ps,af,gg⟩ all l k tm σ=goR P lo Q n (opE P σ σ.length (ev tm) (.makeFunc (.func f) a c)) d all l k tm:=(Eq.refl _).trans rfl
theorem Yky {x:Operand}:goO P lo Q (n+1) ⟨d, .move x,tt,ps,af,gg⟩ all l k tm σ=goR P lo Q n (opE P σ σ.length (ev tm) (.move x)) d all l k tm:=(Eq.refl _).trans rfl
theorem Zzs {x:Operand}:goO P lo Q (n+1) ⟨d, .assign x,tt,ps,af,gg⟩ all l k tm σ=goR P lo Q n (opE P σ σ.length (ev tm) (.assign x)) d all l k tm:=(Eq.refl _).trans rfl
theorem Yk3 {x:Operand} {y:Operand} {z:Operand}:goO P lo Q (n+1) ⟨d, .pick x y z,tt,ps,af,gg⟩ all l k tm σ=goR P lo Q n (opE P σ σ.length (ev tm) (.pick x y z)) d all l k tm:=(Eq.refl _).trans rfl
theorem Yd1 {t:TypeId}:goO P lo Q (n+1) ⟨d, .alloc t,tt,ps,af,gg⟩ all l k tm σ=goR P lo Q n (opE P σ σ.length (ev tm) (.alloc t)) d all l k tm:=(Eq.refl _).trans rfl
theorem Yo3 {t:TypeId} {x:Operand}:goO P lo Q (n+1) ⟨d, .box t x,tt,ps,af,gg⟩ all l k tm σ=goR P lo Q n (opE P σ σ.length (ev tm) (.box t x)) d all l k tm:=(Eq.refl _).trans rfl
theorem Ydi {t:TypeId} {pp:Array (Nat×Operand)}:goO P lo Q (n+1) ⟨d, .build t pp,tt,ps,af,gg⟩ all l k tm σ=goR P lo Q n (opE P σ σ.length (ev tm) (.build t pp)) d all l k tm:=(Eq.refl _).trans rfl
theorem Zlm {t:TypeId} {m:Nat} {pp:Array (Nat×Operand)}:goO P lo Q (n+1) ⟨d, .buildSlice t m pp,tt,ps,af,gg⟩ all l k tm σ=goR P lo Q n (opE P σ σ.length (ev tm) (.buildSlice t m pp)) d all l k tm:=(Eq.refl _).trans rfl
theorem Yi5 {t:TypeId} {x:Operand}:goO P lo Q (n+1) ⟨d, .load t x,tt,ps,af,gg⟩ all l k tm σ=goR P lo Q n (opE P σ σ.length (ev tm) (.load t x)) d all l k tm:=(Eq.refl _).trans rfl
theorem Yfb {t:TypeId} {x:Operand} {y:Operand}:goO P lo Q (n+1) ⟨d, .store t x y,tt,ps,af,gg⟩ all l k tm σ=goR P lo Q n (opE P σ σ.length (ev tm) (.store t x y)) d all l k tm:=(Eq.refl _).trans rfl
theorem Zqr {x:Operand}:goO P lo Q (n+1) ⟨d, .nilCheck x,tt,ps,af,gg⟩ all l k tm σ=goR P lo Q n (opE P σ σ.length (ev tm) (.nilCheck x)) d all l k tm:=(Eq.refl _).trans rfl
theorem Ye1 {op:BinOp} {t:TypeId} {x:Operand} {y:Operand} {u:TypeId}:goO P lo Q (n+1) ⟨d, .binOp op t x y u,tt,ps,af,gg⟩ all l k tm σ=goR P lo Q n (opE P σ σ.length (ev tm) (.binOp op t x y u)) d all l k tm:=(Eq.refl _).trans rfl
theorem Yl5 {uo:UnOp} {t:TypeId} {x:Operand}:goO P lo Q (n+1) ⟨d, .unOp uo t x,tt,ps,af,gg⟩ all l k tm σ=goR P lo Q n (opE P σ σ.length (ev tm) (.unOp uo t x)) d all l k tm:=(Eq.refl _).trans rfl
theorem Zvd {t:TypeId} {u:TypeId} {x:Operand}:goO P lo Q (n+1) ⟨d, .convert t u x,tt,ps,af,gg⟩ all l k tm σ=goR P lo Q n (opE P σ σ.length (ev tm) (.convert t u x)) d all l k tm:=(Eq.refl _).trans rfl
theorem Zi0 {t:TypeId} {x:Operand}:goO P lo Q (n+1) ⟨d, .makeInterface t x,tt,ps,af,gg⟩ all l k tm σ=goR P lo Q n (opE P σ σ.length (ev tm) (.makeInterface t x)) d all l k tm:=(Eq.refl _).trans rfl
theorem Ydr {t:TypeId} {x:Operand} {ox:Option Operand} {oy:Option Operand} {oz:Option Operand}:goO P lo Q (n+1) ⟨d, .slice t x ox oy oz,tt,ps,af,gg⟩ all l k tm σ=goR P lo Q n (opE P σ σ.length (ev tm) (.slice t x ox oy oz)) d all l k tm:=(Eq.refl _).trans rfl
theorem Znr {t:TypeId} {x:Operand} {m:Nat}:goO P lo Q (n+1) ⟨d, .fieldAddr t x m,tt,ps,af,gg⟩ all l k tm σ=goR P lo Q n (opE P σ σ.length (ev tm) (.fieldAddr t x m)) d all l k tm:=(Eq.refl _).trans rfl
theorem Ydm {t:TypeId} {x:Operand} {m:Nat}:goO P lo Q (n+1) ⟨d, .field t x m,tt,ps,af,gg⟩ all l k tm σ=goR P lo Q n (opE P σ σ.length (ev tm) (.field t x m)) d all l k tm:=(Eq.refl _).trans rfl
theorem Zop {t:TypeId} {x:Operand} {y:Operand}:goO P lo Q (n+1) ⟨d, .indexAddr t x y,tt,ps,af,gg⟩ all l k tm σ=goR P lo Q n (opE P σ σ.length (ev tm) (.indexAddr t x y)) d all l k tm:=(Eq.refl _).trans rfl
theorem Yge {t:TypeId} {x:Operand} {y:Operand}:goO P lo Q (n+1) ⟨d, .index t x y,tt,ps,af,gg⟩ all l k tm σ=goR P lo Q n (opE P σ σ.length (ev tm) (.index t x y)) d all l k tm:=(Eq.refl _).trans rfl
theorem Ybl {t:TypeId} {x:Operand} {y:Operand} {b:Bool}:goO P lo Q (n+1) ⟨d, .lookup t x y b,tt,ps,af,gg⟩ all l k tm σ=goR P lo Q n (opE P σ σ.length (ev tm) (.lookup t x y b)) d all l k tm:=(Eq.refl _).trans rfl
theorem Zno {t:TypeId} {x:Operand} {y:Operand} {z:Operand}:goO P lo Q (n+1) ⟨d, .mapUpdate t x y z,tt,ps,af,gg⟩ all l k tm σ=goR P lo Q n (opE P σ σ.length (ev tm) (.mapUpdate t x y z)) d all l k tm:=(Eq.refl _).trans rfl
theorem Zz5 {t:TypeId} {x:Operand} {y:Operand} {z:Operand}:goO P lo Q (n+1) ⟨d, .insert t x y z,tt,ps,af,gg⟩ all l k tm σ=goR P lo Q n (opE P σ σ.length (ev tm) (.insert t x y z)) d all l k tm:=(Eq.refl _).trans rfl
theorem Ycs {t:TypeId} {x:Operand}:goO P lo Q (n+1) ⟨d, .range t x,tt,ps,af,gg⟩ all l k tm σ=goR P lo Q n (opE P σ σ.length (ev tm) (.range t x)) d all l k tm:=(Eq.refl _).trans rfl
theorem Yjd {x:Operand}:goO P lo Q (n+1) ⟨d, .next x true,tt,ps,af,gg⟩ all l k tm σ=goR P lo Q n (opE P σ σ.length (ev tm) (.next x true)) d all l k tm:=(Eq.refl _).trans rfl
theorem Ydh {x:Operand}:goO P lo Q (n+1) ⟨d, .entry x,tt,ps,af,gg⟩ all l k tm σ=goR P lo Q n (opE P σ σ.length (ev tm) (.entry x)) d all l k tm:=(Eq.refl _).trans rfl
theorem Yco {x:Operand}:goO P lo Q (n+1) ⟨d, .next x false,tt,ps,af,gg⟩ all l k tm σ=nextQ (ev tm x) σ fun r σ'=>EvK P lo Q (.ops all l :: k) .normal ⟨put tm d r,σ'⟩:=(Eq.refl _).trans rfl
theorem Zmg {x:Operand} {t:TypeId} {u:TypeId} {b:Bool}:goO P lo Q (n+1) ⟨d, .typeAssert x t u b,tt,ps,af,gg⟩ all l k tm σ=goR P lo Q n (opE P σ σ.length (ev tm) (.typeAssert x t u b)) d all l k tm:=(Eq.refl _).trans rfl
theorem Zu9 {x:Operand} {m:Nat}:goO P lo Q (n+1) ⟨d, .extract x m,tt,ps,af,gg⟩ all l k tm σ=goR P lo Q n (opE P σ σ.length (ev tm) (.extract x m)) d all l k tm:=(Eq.refl _).trans rfl
theorem Zpf {t:TypeId} {x:Operand} {y:Operand}:goO P lo Q (n+1) ⟨d, .makeSlice t x y,tt,ps,af,gg⟩ all l k tm σ=goR P lo Q n (opE P σ σ.length (ev tm) (.makeSlice t x y)) d all l k tm:=(Eq.refl _).trans rfl
theorem Zwf {t:TypeId} {ox:Option Operand}:goO P lo Q (n+1) ⟨d, .makeMap t ox,tt,ps,af,gg⟩ all l k tm σ=goR P lo Q n (opE P σ σ.length (ev tm) (.makeMap t ox)) d all l k tm:=(Eq.refl _).trans rfl
end
attribute [go_sem] Zva Yhz Yky Zzs Yk3 Yd1 Yo3 Ydi Zlm Yi5 Yfb Zqr Ye1 Yl5 Zvd Zi0 Ydr Znr Ydm Zop Yge Ybl Zno Zz5 Ycs Yjd Yco Ydh Zmg Zu9 Zpf Zwf
theorem Yhd {b:Bool}:gd2 true (some (.bool b))=some b:=by cases b<;>rfl
theorem Ymy {b:Bool}:gd2 false (some (.bool b))=some (!b):=by cases b<;>rfl
theorem Yhv {x y:AVal}:pickA (.bool true) x y=some x:=by cases x<;>cases y<;>rfl
theorem Yc8 {x y:AVal}:pickA (.bool false) x y=some y:=by cases x<;>cases y<;>rfl
attribute [go_sem high] Yhd Ymy Yhv Yc8
attribute [go_sem high] Ynf Yh7 Yp2 Yjh Zuz Zwo Zof Zzy Yqu Yks Ycr
attribute [go_sem] Zsb Yrm Yqv Yrq Yn6 Yhp Yfo Ypk Ypi Ysk Yk7 Yi9 Ylm Zr7 Yoo Zrb Zri Zvj Zzo Zw7 Zok Yae Zuq Zud Zn2 Zx8 Zv2 Ylw Zwr R_if Ytc Zrq Zw8 Zo1 Zq7 Ycm Ye5 Ycw Yef Yfd Ym3 Ydf Zz4 Yh8 Yix Yqr Yno Zwv Yhk Yb6 Yfa Ych Yfq Yc9 Yb3 Zoq Zut Yb5 Zo9 Zyp Yeu Yfe Zvh Yet Ycq Zr5 Yd5 Zxs Zp2 Zwx Yfl Zqx Zpx Zrp Ydn Zym Yeq Zrh Yev Yj4 Yja Zyj Yhm Ykr Zur Yjx Yfi Zpt Yek Yhx Zwg Zts Yjr Yjt Yfp Yku Yoj Ymv Yfs Yjz Ybc Yf7 Ya6 Zz1 Zmq Zlo Ybe Ya2 Ydt Yjg Ykm Yc2 Zq2 Yfg Ydv Zy3 Ye7 Zuk Zoa Zpz Zp8 Zuw Zuy Zm6 Ycx Zwy Ydg Ye8 Zy7 Ybv Yrz Yry Yow Ypm Ymf Yie Yl1 Ydj Yjq Yn4 Ym2 Yly Yqq Ym7 Yob Yna Yqh Yq4 Ynm Yo4 Ylb Yio Yee Yel Ztv Ylg Zvn Zrn Zpn Yt9 Yor Ypb Yl0 Yar Yei Ype Yqg Yns Yop Yn9 Yof Yj6 Ymw Ykd Ynj Ygb Ypz Zvv Ypx Yi2 Ybz Ysw Yl3 Yse Zu5 Ync Zsb Yg0 Yc4 Zw0 Ydu Zy8 Zu0 Ztw Yf8 Zls Zyt Zg0 Yon Yph Yqt Yk2 Ynz Yt7 Yrr Yhu Yiy Yk4 Ykg Yiu Zyn Ycz Yft Zz6 Ztz Yjs Yfm Ynw Yq8 Yog Ymo Ysl Yq9 Ygg Yoh Yqa Ynp Ypt Ylq Ydx Yo9 Yde Ynd Yjb Yrx Yj3 Zoz Yoe Yju Ysr Yqj Ysh Ys6 Ysp Ysy e_un Ybx Yny Ysd Zq0 Yhh Zro Yiv Zqw Yhb Yep Zr0 Yc5 Yho Zvz Zy4 Yil Ysb Ycj Ypc Ydo Yad Yom Zx4 Yb0 Yav Ykh Ylc Yq7 Yg9 Yt6 Yln Yqk Yq0 Yjp Yqn Ylu Yq2 Yls Yn1 Ylf Yhw Ym0 Yi1 Yr1 Ymr Yni Yt4 Yro Ypy Zwm Yo7 Yr4 Ykn Ygd Yki Yk0 Yew Ykp Ycf Yfn Zgr Zwa Zv5 Yfz Zzz Ybq Yd8 Yl7 Yht Zw1 Yda Zwu Zux Yas Yh6 Yic Yma Ypf Yij Yj9 Ymk Ym8 Yoy Yjc Yjw Ypg Ypw Zz3 Ypr Ym5 Yo1 Yiq Yn5 Yhj Zlu Ymx Yr5 Ysz Yj2 Ysf Ymc Zl0 Yrv Yqy Zvr Yce Ysi Yka Ymh Yp0 Ylo Yi0 Ym4 Ynt Zb7 Zaz Zag
attribute [go_sem] Option.bind_some Option.map_some Option.bind_none Option.map_none Option.join_some List.getD_cons_zero List.getD_cons_succ List.set_cons_zero List.set_cons_succ List.length_cons List.length_nil List.all_cons List.all_nil Bool.and_true Bool.true_and Bool.and_false Bool.false_and Bool.or_true Bool.or_false Bool.false_or Bool.true_or and_self if_true if_false Bool.false_eq_true Bool.true_eq_false true_implies false_implies and_true true_and and_false false_and forall_const reduceCtorEq List.nil_append List.replicate_zero List.replicate_succ List.cons_append Nat.lt_irrefl List.getElem?_cons_zero List.getElem?_cons_succ List.getElem?_nil Option.getD_some Option.getD_none List.drop_zero List.drop_succ_cons List.head?_cons ne_eq not_false_eq_true not_true_eq_false List.take_succ_cons List.take_zero List.map_cons List.map_nil List.mapM_cons List.mapM_nil Option.pure_def Option.bind_eq_bind Option.some.injEq exists_eq_left' exists_eq_left or_true true_or or_false false_or beq_self_eq_true decide_true decide_false Bool.not_true Bool.not_false Option.isSome_some Option.isSome_none Option.map_map Nat.zero_add Nat.add_zero
theorem Yji {n:Nat}:AVal.low n .anyb=True:=(Eq.refl _).trans rfl
attribute [go_sem] Yji Ys7 Ypq Yn8 Yig Yo2 Zx7 Ybf Yeh Yfu Yqm Yqx Ycg Ykx Yj1 Yso Yq1 Yp3 Ym6 Yfc Yi6 Ysu Ys3 Yru
attribute [go_sem] Yp5 Yg2 Yhs Yo8 Ysq Ynn Yt2 Yck Ynu Zue Zxl Yii Yfj Zvb Yib Zu1 Zzq Yj5 Ykv Yhy Ysv Ys9 Zuo Yr3 Znc Ys0 Yml Yf3 Ygf
attribute [go_sem low] Zyy Zwp Ynl Yod
@[go_sem] theorem Ysn:roomN 0=6000000000000:=rfl
@[go_sem] theorem Yt3:roomN 1=6000000000000:=rfl
@[go_sem] theorem Ytb:roomN 2=6000000000000:=rfl
@[go_sem] theorem Ys8:roomN 4=6000000000000:=rfl
@[go_sem] theorem Yta:roomN 8=6000000000000:=rfl
@[go_sem] theorem Yr6:roomN 16=6000000000000:=rfl
@[go_sem] theorem Yrg:roomN 24=6000000000000:=rfl
@[go_sem] theorem Yri:roomN 32=6000000000000:=rfl
@[go_sem] theorem Yrc:roomN 40=1000000000:=rfl
@[go_sem] theorem Yrl:roomN 48=1000000000:=rfl
@[go_sem] theorem Yr7:roomN 56=1000000000:=rfl
@[go_sem] theorem Yr8:roomN 64=1000000000:=rfl
@[go_sem] theorem Yrk:roomN 72=1000000000:=rfl
@[go_sem] theorem Yre:roomN 80=1000000000:=rfl
@[go_sem] theorem Yrh:roomN 88=1000000000:=rfl
@[go_sem] theorem Yrb:roomN 96=1000000000:=rfl
@[go_sem] theorem Yp9:roomN 104=1000000000:=rfl
@[go_sem] theorem Ymp:roomN 112=1000000000:=rfl
@[go_sem] theorem Ynh:roomN 120=1000000000:=rfl
@[go_sem] theorem Yos:roomN 128=1000000000:=rfl
@[go_sem] theorem Yr2:roomN 136=1000000000:=rfl
@[go_sem] theorem Yqp:roomN 144=1000000000:=rfl
@[go_sem] theorem Ymq:roomN 152=1000000000:=rfl
@[go_sem] theorem Ypp:roomN 160=1000000000:=rfl
@[go_sem] theorem Yp8:roomN 168=1000000000:=rfl
@[go_sem] theorem Ymb:roomN 176=1000000000:=rfl
@[go_sem] theorem Yp7:roomN 184=1000000000:=rfl
@[go_sem] theorem Yn0:roomN 192=1000000000:=rfl
@[go_sem] theorem Ymg:roomN 200=1000000000:=rfl
@[go_sem] theorem Ynv:roomN 208=1000000000:=rfl
@[go_sem] theorem Ynk:roomN 216=1000000000:=rfl
@[go_sem] theorem Ymm:roomN 224=1000000000:=rfl
@[go_sem] theorem Yoa:roomN 232=1000000000:=rfl
@[go_sem] theorem Yn7:roomN 240=1000000000:=rfl
@[go_sem] theorem Ymt:roomN 248=1000000000:=rfl
@[go_sem] theorem Yp4:roomN 256=1000000000:=rfl
@[go_sem] theorem Yoi:roomN 264=1000000000:=rfl
@[go_sem] theorem Yqi:roomN 272=1000000000:=rfl
@[go_sem] theorem Yn3:roomN 280=1000000000:=rfl
@[go_sem] theorem Ym1:roomN 288=1000000000:=rfl
@[go_sem] theorem Yqw:roomN 296=1000000000:=rfl
@[go_sem] theorem Yol:roomN 304=1000000000:=rfl
@[go_sem] theorem Ypu:roomN 312=1000000000:=rfl
@[go_sem] theorem Yms:roomN 320=1000000000:=rfl
@[go_sem] theorem Ypj:roomN 328=1000000000:=rfl
@[go_sem] theorem Yq6:roomN 336=1000000000:=rfl
@[go_sem] theorem Yr0:roomN 344=1000000000:=rfl
@[go_sem] theorem Yqb:roomN 352=1000000000:=rfl
@[go_sem] theorem Yov:roomN 360=1000000000:=rfl
@[go_sem] theorem Yll:roomN 368=1000000000:=rfl
@[go_sem] theorem Yot:roomN 376=1000000000:=rfl
@[go_sem] theorem Ylr:roomN 384=1000000000:=rfl
@[go_sem] theorem Yqf:roomN 392=1000000000:=rfl
@[go_sem] theorem Yo5:roomN 400=1000000000:=rfl
end Go.Abs
