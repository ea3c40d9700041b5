/- Part 19 of my own framework and of the walks of functions: AbsT. -/
import Derived.Test.YtfjbdamcmiglgaaGreatOwn18
set_option linter.unusedVariables false
set_option linter.unusedSectionVars false
set_option linter.unusedSimpArgs false
namespace Go.c8
open Go
section
variable {P:Program} {lo:Ctx} {Q:cb→St→Prop} {n:Nat} {k:List KI} {tm:List ae} {σ:ai} {all:Array Oper} {l:List Oper}
theorem Yii {ι:Type} {I : ι→List ae} {S : ι→ai} {μ : ι→Nat} {x : ι} {s:St}:sG P lo Q k I S μ x .normal s = ∃ y,yQ (I y) (S y) s∧μ y < μ x:=(Eq.refl _).trans rfl
theorem Yr0 {ι:Type} {I : ι→List ae} {S : ι→ai} {μ : ι→Nat} {x : ι} {s:St} {i:Nat}:sG P lo Q k I S μ x (.exit i) s=aK P lo Q k (.exit i) s:=(Eq.refl _).trans rfl
theorem Yqd {ι:Type} {I : ι→List ae} {S : ι→ai} {μ : ι→Nat} {x : ι} {s:St} {i:Nat}:sG P lo Q k I S μ x (.goto i) s=aK P lo Q k (.goto i) s:=(Eq.refl _).trans rfl
theorem Yx8 {ι:Type} {I : ι→List ae} {S : ι→ai} {μ : ι→Nat} {x : ι} {s:St}:sG P lo Q k I S μ x .ret s=aK P lo Q k .ret s:=(Eq.refl _).trans rfl
theorem ZB {rs:List ResultVar} {K:ae→ai→Prop} {s:St}:qv P rs K .normal s = ∃ r,fS P s rs=some r∧K r s.σ:=(Eq.refl _).trans rfl
theorem Yw7 {rs:List ResultVar} {K:ae→ai→Prop} {s:St}:qv P rs K .ret s = ∃ r,fS P s rs=some r∧K r s.σ:=(Eq.refl _).trans rfl
theorem Yjq {ι:Type} {I : ι→List ae} {S : ι→ai} {μ : ι→Nat} {x : ι} {s:St} {u:Value}:sG P lo Q k I S μ x (.panic u) s=aK P lo Q k (.panic u) s:=(Eq.refl _).trans rfl
theorem Yxi {r r0:ae}:Hl r r0 σ=pT (fun _=>true) σ r r0:=(Eq.refl _).trans rfl
theorem Ys6 {r:ResultVar} {tm:List ae}:fS P ⟨tm,σ⟩ [r]=qu tm σ P r:=by
 simp only [fS,m8,List.mapM_nil]
 cases qu tm σ P r<;>rfl
theorem Yo8 {tm:List ae}:fS P ⟨tm,σ⟩ []=some (.dA []):=(Eq.refl _).trans rfl
theorem Yrl {r r':ResultVar} {rs:List ResultVar} {tm:List ae}:fS P ⟨tm,σ⟩ (r :: r' :: rs)=((r :: r' :: rs).mapM (qu tm σ P)).map .dA:=by
 simp only [fS,m8]
 cases qu tm σ P r with
 | none=>rfl
 | some a=>cases qu tm σ P r' with
  | none=>rfl
  | some b=>cases List.mapM (qu tm σ P) rs<;>rfl
theorem Yqx {t:Tmp} {tm:List ae}:qu tm σ P (.tmp t)=some (tm.getD t .undef):=(Eq.refl _).trans rfl
theorem Yje {a:Tmp} {t:TypeId} {tm:List ae}:qu tm σ P (.cell a t)=(aF P t).bind fun l=>jf σ l (tm.getD a .undef):=(Eq.refl _).trans rfl
theorem Ysm {jR:List ae} {σ':ai}:yQ jR σ' ⟨tm,σ⟩=(l9 jR tm∧iy σ' σ∧bz σ'.length jR∧bw σ'.length σ'):=(Eq.refl _).trans rfl
theorem Yjs:l9 [] []=True:=(Eq.refl _).trans rfl
theorem Zzj {b:ae} {cm bs:List ae}:l9 (.undef :: cm) (b :: bs)=l9 cm bs:=by simp [l9]
theorem Z7 {a:ae} {cm bs:List ae}:l9 (a :: cm) (a :: bs)=l9 cm bs:=by simp [l9]
theorem Yfx {a b:ae} {cm bs:List ae}:l9 (a :: cm) (b :: bs)=((a=b∨a = .undef)∧l9 cm bs):=(Eq.refl _).trans rfl
theorem Yo4:iy [] σ=True:=(Eq.refl _).trans rfl
theorem Yfo {a b:Option bE} {cm bs:ai}:iy (a :: cm) (b :: bs)=((a=b∨a=none)∧iy cm bs):=(Eq.refl _).trans rfl
theorem Yey {b:Option bE} {cm bs:ai}:iy (none :: cm) (b :: bs)=iy cm bs:=by simp [iy]
theorem TB {a:Option bE} {cm bs:ai}:iy (a :: cm) (a :: bs)=iy cm bs:=by simp [iy]
theorem Fv {n:Nat}:bw n []=True:=(Eq.refl _).trans rfl
theorem Sn {n:Nat}:bw n (none :: σ)=bw n σ:=by simp [bw,jw]
theorem YV {n:Nat} {b:bE}:bw n (some b :: σ)=(b.low n∧bw n σ):=(Eq.refl _).trans rfl
theorem Ykw {n:Nat}:bz n []=True:=(Eq.refl _).trans rfl
theorem Zd {n:Nat} {a:ae} {cm:List ae}:bz n (a :: cm)=(a.low n∧bz n cm):=(Eq.refl _).trans rfl
theorem Yhs {n:Nat}:ae.low n .undef=True:=(Eq.refl _).trans rfl
theorem Ykc {n:Nat} {b:Bool}:ae.low n (.bool b)=True:=(Eq.refl _).trans rfl
theorem Yrq {n:Nat} {k:IntKind} {i:Int}:ae.low n (.int k i)=True:=(Eq.refl _).trans rfl
theorem Yrz {n:Nat} {s:ByteArray}:ae.low n (.str s)=True:=(Eq.refl _).trans rfl
theorem YS {n:Nat}:ae.low n .bN=True:=(Eq.refl _).trans rfl
theorem Yns {n:Nat}:ae.low n .aU=True:=(Eq.refl _).trans rfl
theorem Yf1 {n:Nat}:ae.low n .az=True:=(Eq.refl _).trans rfl
theorem YA {n:Nat}:ae.low n .cC=True:=(Eq.refl _).trans rfl
theorem Yg6 {n:Nat}:ae.low n .fR=True:=(Eq.refl _).trans rfl
theorem Yqg {n:Nat} {v:Value}:ae.low n (.nX v)=True:=(Eq.refl _).trans rfl
theorem Yu6 {n b o:Nat}:ae.low n (.ptr b o)=(b<n):=(Eq.refl _).trans rfl
theorem Yzy {n b i f:Nat}:ae.low n (.rp b i f)=(b<n):=(Eq.refl _).trans rfl
theorem Yuu {n b o m s:Nat}:ae.low n (.os b o m s)=(b<n):=(Eq.refl _).trans rfl
theorem Ywr {n b o m c s:Nat}:ae.low n (.oc b o m c s)=(b<n):=(Eq.refl _).trans rfl
theorem Yss {n b:Nat}:ae.low n (.lz b)=(b<n):=(Eq.refl _).trans rfl
theorem Ys8 {n b:Nat}:ae.low n (.map b)=(b<n):=(Eq.refl _).trans rfl
theorem Yx4 {n b:Nat}:ae.low n (.it b)=(b<n):=(Eq.refl _).trans rfl
theorem Yzv {n:Nat} {cs:List ae}:ae.low n (.pp cs)=bz n cs:=(Eq.refl _).trans rfl
theorem Yve {n s:Nat} {cs:List ae}:ae.low n (.ps s cs)=bz n cs:=(Eq.refl _).trans rfl
theorem Yso {n:Nat} {cs:List ae}:ae.low n (.agg cs)=bz n cs:=(Eq.refl _).trans rfl
theorem Yu7 {n:Nat} {cs:List ae}:ae.low n (.dA cs)=bz n cs:=(Eq.refl _).trans rfl
theorem Ywm {n:Nat} {f:FuncId} {a c:List ae}:ae.low n (.fn f a c)=(bz n a∧bz n c):=(Eq.refl _).trans rfl
theorem Yyu {n:Nat} {a c:List ae}:ae.low n (.pm a c)=(bz n a∧bz n c):=(Eq.refl _).trans rfl
theorem Zf {n:Nat} {t:TypeId} {v:ae}:ae.low n (.iface t v)=v.low n:=(Eq.refl _).trans rfl
theorem Yva {n:Nat} {cs:List ae}:bE.low n (.var cs)=bz n cs:=(Eq.refl _).trans rfl
theorem Yuk {n fz:Nat} {cs:List ae}:bE.low n (.row cs fz)=bz n cs:=(Eq.refl _).trans rfl
theorem Yvc {n:Nat} {a c:List ae} {f:Bool}:bE.low n (.map a c f)=(bz n a∧bz n c):=(Eq.refl _).trans rfl
theorem Xh {n:Nat} {ks vs:List ae} {s:List Nat}:bE.low n (.lu ks vs s)=(bz n ks∧bz n vs):=(Eq.refl _).trans rfl
theorem Ypb {n pos:Nat} {s:ByteArray}:bE.low n (.iter s pos)=True:=(Eq.refl _).trans rfl
theorem PF {F:Nat→Bool}:kO F σ [] []=True:=by simp [kO]
theorem FE {F:Nat→Bool} {t a:ae} {ts cm:List ae}:kO F σ (t :: ts) (a :: cm)=(pT F σ t a∧kO F σ ts cm):=by simp [kO]
theorem Yja {F:Nat→Bool} {ts:List ae}:kO F σ ts ts=True:=eq_true (cJ F σ ts)
theorem Yqi {F:Nat→Bool} {t:ae}:pT F σ t t=True:=eq_true (wm F σ t)
theorem Yvp {F:Nat→Bool} {cs ni:List ae}:pT F σ (.agg ni) (.agg cs)=kO F σ ni cs:=by simp [pT]
theorem Yxy {F:Nat→Bool} {cs ni:List ae}:pT F σ (.dA ni) (.dA cs)=kO F σ ni cs:=by simp [pT]
theorem Xk {F:Nat→Bool} {cs ni:List ae}:pT F σ (.pp ni) (.pp cs)=kO F σ ni cs:=by simp [pT]
theorem Ysv {F:Nat→Bool} {s:Nat} {ts:List ae}:pT F σ (.ps s ts) .aU=(ts=[]):=by simp [pT]
theorem XS {F:Nat→Bool} {s s':Nat} {ts es:List ae}:pT F σ (.ps s ts) (.ps s' es)=(s'=s∧kO F σ ts es):=by simp [pT]
def y3 (F:Nat→Bool) (σ:ai) (ts:List ae) (off n:Nat):Option bE→Prop
 | some (.row es _)=>off+n≤es.length∧kO F σ ts ((es.drop off).take n)
 | _=>False
theorem QJ {F:Nat→Bool} {s s' b off n:Nat} {ts:List ae}:pT F σ (.ps s ts) (.os b off n s')=(s'=s∧F b=true∧y3 F σ ts off n (bH σ b)):=by
 simp only [pT,y3];cases bH σ b with | none=>rfl | some x=>cases x<;>rfl
theorem Sh {F:Nat→Bool} {ts es:List ae} {off n fz:Nat}:y3 F σ ts off n (some (.row es fz))=(off+n≤es.length∧kO F σ ts ((es.drop off).take n)):=(Eq.refl _).trans rfl
theorem XL {F:Nat→Bool} {a b c d:List ae}:pT F σ (.pm a b) (.pm c d)=(kO F σ a c∧kO F σ b d):=by simp [pT]
def y0 (F:Nat→Bool) (σ:ai) (a b:List ae):Option bE→Prop
 | some (.map ks vs _)=>kO F σ a ks∧kO F σ b vs
 | _=>False
theorem Yw5 {F:Nat→Bool} {a b:List ae} {m:Nat}:pT F σ (.pm a b) (.map m)=(F m=true∧y0 F σ a b (bH σ m)):=by
 simp only [pT,y0];cases bH σ m with | none=>rfl | some x=>cases x<;>rfl
theorem YR {F:Nat→Bool} {a b ks vs:List ae} {f:Bool}:y0 F σ a b (some (.map ks vs f))=(kO F σ a ks∧kO F σ b vs):=(Eq.refl _).trans rfl
theorem Yne {F:Nat→Bool} {t t':TypeId} {a b:ae}:pT F σ (.iface t' a) (.iface t b)=(t'=t∧pT F σ a b):=by simp [pT]
theorem Xp {F:Nat→Bool} {f f':FuncId} {a b c d:List ae}:pT F σ (.fn f' a b) (.fn f c d)=(f'=f∧kO F σ a c∧kO F σ b d):=by simp [pT]
theorem Ype {F:Nat→Bool} {b:Bool} {a:ae}:pT F σ (.bool b) a=(a = .bool b):=by simp [pT]
theorem Yxk {F:Nat→Bool} {k:IntKind} {i:Int} {a:ae}:pT F σ (.int k i) a=(a = .int k i):=by simp [pT]
theorem Yx5 {F:Nat→Bool} {s:ByteArray} {a:ae}:pT F σ (.str s) a=(a = .str s):=by simp [pT]
theorem Yxf {F:Nat→Bool} {i:Nat}:fZ F i []=[]:=(Eq.refl _).trans rfl
theorem Ytt {F:Nat→Bool} {i:Nat} {b:Option bE} {σ:ai}:fZ F i (b :: σ)=(if F i=true then j0 b else b) :: fZ F (i+1) σ:=(Eq.refl _).trans rfl
theorem Yw0 {es:List ae} {fz:Nat}:j0 (some (.row es fz))=some (.row es (max fz es.length)):=(Eq.refl _).trans rfl
theorem Yxs {ks vs:List ae} {f:Bool}:j0 (some (.map ks vs f))=some (.map ks vs true):=(Eq.refl _).trans rfl
theorem rI {b:Nat}:among [] b=false:=(Eq.refl _).trans rfl
theorem rH {a b:Nat} {bs:List Nat}:among (a :: bs) b=(a==b||among bs b):=by simp [among]
end
section
variable {P:Program} {lo:Ctx} {Q:cb→St→Prop} {n:Nat} {k:List KI} {tm:List ae} {σ:ai} {all:Array Oper} {l:List Oper} {d:Option Tmp} {tt:TypeId} {ps:String} {af:Array Edge} {gg:Option (Nat×Bool)}
theorem YT {bi:Builtin} {args:Array Operand} {ts:Array TypeId}:mK P lo Q (n+1) ⟨d, .call ⟨.builtin bi,args,ts⟩,tt,ps,af,gg⟩ all l k tm σ=l8 P lo Q n (c9 P σ σ.length (ev tm) (.call ⟨.builtin bi,args,ts⟩)) d all l k tm:=(Eq.refl _).trans rfl
theorem Ysz {f:FuncId} {a c:Array Operand}:mK P lo Q (n+1) ⟨d, .makeFunc (.func f) a c,tt,ps,af,gg⟩ all l k tm σ=l8 P lo Q n (c9 P σ σ.length (ev tm) (.makeFunc (.func f) a c)) d all l k tm:=(Eq.refl _).trans rfl
theorem Yuf {x:Operand}:mK P lo Q (n+1) ⟨d, .move x,tt,ps,af,gg⟩ all l k tm σ=l8 P lo Q n (c9 P σ σ.length (ev tm) (.move x)) d all l k tm:=(Eq.refl _).trans rfl
theorem Yhl {x:Operand}:mK P lo Q (n+1) ⟨d, .assign x,tt,ps,af,gg⟩ all l k tm σ=l8 P lo Q n (c9 P σ σ.length (ev tm) (.assign x)) d all l k tm:=(Eq.refl _).trans rfl
theorem Yrg {x:Operand} {y:Operand} {z:Operand}:mK P lo Q (n+1) ⟨d, .pick x y z,tt,ps,af,gg⟩ all l k tm σ=l8 P lo Q n (c9 P σ σ.length (ev tm) (.pick x y z)) d all l k tm:=(Eq.refl _).trans rfl
theorem Ym6 {t:TypeId}:mK P lo Q (n+1) ⟨d, .alloc t,tt,ps,af,gg⟩ all l k tm σ=l8 P lo Q n (c9 P σ σ.length (ev tm) (.alloc t)) d all l k tm:=(Eq.refl _).trans rfl
theorem Yxd {t:TypeId} {x:Operand}:mK P lo Q (n+1) ⟨d, .box t x,tt,ps,af,gg⟩ all l k tm σ=l8 P lo Q n (c9 P σ σ.length (ev tm) (.box t x)) d all l k tm:=(Eq.refl _).trans rfl
theorem Yng {t:TypeId} {pp:Array (Nat×Operand)}:mK P lo Q (n+1) ⟨d, .build t pp,tt,ps,af,gg⟩ all l k tm σ=l8 P lo Q n (c9 P σ σ.length (ev tm) (.build t pp)) d all l k tm:=(Eq.refl _).trans rfl
theorem Zp4 {t:TypeId} {m:Nat} {pp:Array (Nat×Operand)}:mK P lo Q (n+1) ⟨d, .buildSlice t m pp,tt,ps,af,gg⟩ all l k tm σ=l8 P lo Q n (c9 P σ σ.length (ev tm) (.buildSlice t m pp)) d all l k tm:=(Eq.refl _).trans rfl
theorem Yq5 {t:TypeId} {x:Operand}:mK P lo Q (n+1) ⟨d, .load t x,tt,ps,af,gg⟩ all l k tm σ=l8 P lo Q n (c9 P σ σ.length (ev tm) (.load t x)) d all l k tm:=(Eq.refl _).trans rfl
theorem Yk5 {t:TypeId} {x:Operand} {y:Operand}:mK P lo Q (n+1) ⟨d, .store t x y,tt,ps,af,gg⟩ all l k tm σ=l8 P lo Q n (c9 P σ σ.length (ev tm) (.store t x y)) d all l k tm:=(Eq.refl _).trans rfl
theorem Zvg {x:Operand}:mK P lo Q (n+1) ⟨d, .nilCheck x,tt,ps,af,gg⟩ all l k tm σ=l8 P lo Q n (c9 P σ σ.length (ev tm) (.nilCheck x)) d all l k tm:=(Eq.refl _).trans rfl
theorem Yim {op:BinOp} {t:TypeId} {x:Operand} {y:Operand} {u:TypeId}:mK P lo Q (n+1) ⟨d, .binOp op t x y u,tt,ps,af,gg⟩ all l k tm σ=l8 P lo Q n (c9 P σ σ.length (ev tm) (.binOp op t x y u)) d all l k tm:=(Eq.refl _).trans rfl
theorem Yq3 {uo:UnOp} {t:TypeId} {x:Operand}:mK P lo Q (n+1) ⟨d, .unOp uo t x,tt,ps,af,gg⟩ all l k tm σ=l8 P lo Q n (c9 P σ σ.length (ev tm) (.unOp uo t x)) d all l k tm:=(Eq.refl _).trans rfl
theorem Yj {t:TypeId} {u:TypeId} {x:Operand}:mK P lo Q (n+1) ⟨d, .convert t u x,tt,ps,af,gg⟩ all l k tm σ=l8 P lo Q n (c9 P σ σ.length (ev tm) (.convert t u x)) d all l k tm:=(Eq.refl _).trans rfl
theorem Zjr {t:TypeId} {x:Operand}:mK P lo Q (n+1) ⟨d, .makeInterface t x,tt,ps,af,gg⟩ all l k tm σ=l8 P lo Q n (c9 P σ σ.length (ev tm) (.makeInterface t x)) d all l k tm:=(Eq.refl _).trans rfl
theorem Ykq {t:TypeId} {x:Operand} {ox:Option Operand} {oy:Option Operand} {oz:Option Operand}:mK P lo Q (n+1) ⟨d, .slice t x ox oy oz,tt,ps,af,gg⟩ all l k tm σ=l8 P lo Q n (c9 P σ σ.length (ev tm) (.slice t x ox oy oz)) d all l k tm:=(Eq.refl _).trans rfl
theorem Zrm {t:TypeId} {x:Operand} {m:Nat}:mK P lo Q (n+1) ⟨d, .fieldAddr t x m,tt,ps,af,gg⟩ all l k tm σ=l8 P lo Q n (c9 P σ σ.length (ev tm) (.fieldAddr t x m)) d all l k tm:=(Eq.refl _).trans rfl
theorem Yny {t:TypeId} {x:Operand} {m:Nat}:mK P lo Q (n+1) ⟨d, .field t x m,tt,ps,af,gg⟩ all l k tm σ=l8 P lo Q n (c9 P σ σ.length (ev tm) (.field t x m)) d all l k tm:=(Eq.refl _).trans rfl
theorem Zse {t:TypeId} {x:Operand} {y:Operand}:mK P lo Q (n+1) ⟨d, .indexAddr t x y,tt,ps,af,gg⟩ all l k tm σ=l8 P lo Q n (c9 P σ σ.length (ev tm) (.indexAddr t x y)) d all l k tm:=(Eq.refl _).trans rfl
theorem Yml {t:TypeId} {x:Operand} {y:Operand}:mK P lo Q (n+1) ⟨d, .index t x y,tt,ps,af,gg⟩ all l k tm σ=l8 P lo Q n (c9 P σ σ.length (ev tm) (.index t x y)) d all l k tm:=(Eq.refl _).trans rfl
theorem ZE {t:TypeId} {x:Operand} {y:Operand} {b:Bool}:mK P lo Q (n+1) ⟨d, .lookup t x y b,tt,ps,af,gg⟩ all l k tm σ=l8 P lo Q n (c9 P σ σ.length (ev tm) (.lookup t x y b)) d all l k tm:=(Eq.refl _).trans rfl
theorem Zs5 {t:TypeId} {x:Operand} {y:Operand} {z:Operand}:mK P lo Q (n+1) ⟨d, .mapUpdate t x y z,tt,ps,af,gg⟩ all l k tm σ=l8 P lo Q n (c9 P σ σ.length (ev tm) (.mapUpdate t x y z)) d all l k tm:=(Eq.refl _).trans rfl
theorem Yfd {t:TypeId} {x:Operand} {y:Operand} {z:Operand}:mK P lo Q (n+1) ⟨d, .insert t x y z,tt,ps,af,gg⟩ all l k tm σ=l8 P lo Q n (c9 P σ σ.length (ev tm) (.insert t x y z)) d all l k tm:=(Eq.refl _).trans rfl
theorem Yjy {t:TypeId} {x:Operand}:mK P lo Q (n+1) ⟨d, .range t x,tt,ps,af,gg⟩ all l k tm σ=l8 P lo Q n (c9 P σ σ.length (ev tm) (.range t x)) d all l k tm:=(Eq.refl _).trans rfl
theorem Yu8 {x:Operand}:mK P lo Q (n+1) ⟨d, .next x true,tt,ps,af,gg⟩ all l k tm σ=l8 P lo Q n (c9 P σ σ.length (ev tm) (.next x true)) d all l k tm:=(Eq.refl _).trans rfl
theorem Yn4 {x:Operand}:mK P lo Q (n+1) ⟨d, .entry x,tt,ps,af,gg⟩ all l k tm σ=l8 P lo Q n (c9 P σ σ.length (ev tm) (.entry x)) d all l k tm:=(Eq.refl _).trans rfl
theorem Yn1 {x:Operand}:mK P lo Q (n+1) ⟨d, .next x false,tt,ps,af,gg⟩ all l k tm σ=nextQ (ev tm x) σ fun r σ'=>aK P lo Q (.ops all l :: k) .normal ⟨put tm d r,σ'⟩:=(Eq.refl _).trans rfl
theorem Zpn {x:Operand} {t:TypeId} {u:TypeId} {b:Bool}:mK P lo Q (n+1) ⟨d, .typeAssert x t u b,tt,ps,af,gg⟩ all l k tm σ=l8 P lo Q n (c9 P σ σ.length (ev tm) (.typeAssert x t u b)) d all l k tm:=(Eq.refl _).trans rfl
theorem Zze {x:Operand} {m:Nat}:mK P lo Q (n+1) ⟨d, .extract x m,tt,ps,af,gg⟩ all l k tm σ=l8 P lo Q n (c9 P σ σ.length (ev tm) (.extract x m)) d all l k tm:=(Eq.refl _).trans rfl
theorem Zsh {t:TypeId} {x:Operand} {y:Operand}:mK P lo Q (n+1) ⟨d, .makeSlice t x y,tt,ps,af,gg⟩ all l k tm σ=l8 P lo Q n (c9 P σ σ.length (ev tm) (.makeSlice t x y)) d all l k tm:=(Eq.refl _).trans rfl
theorem YI {t:TypeId} {ox:Option Operand}:mK P lo Q (n+1) ⟨d, .makeMap t ox,tt,ps,af,gg⟩ all l k tm σ=l8 P lo Q n (c9 P σ σ.length (ev tm) (.makeMap t ox)) d all l k tm:=(Eq.refl _).trans rfl
end
attribute [go_sem] YT Ysz Yuf Yhl Yrg Ym6 Yxd Yng Zp4 Yq5 Yk5 Zvg Yim Yq3 Yj Zjr Ykq Zrm Yny Zse Yml ZE Zs5 Yfd Yjy Yu8 Yn1 Yn4 Zpn Zze Zsh YI
theorem Yrj {b:Bool}:CS true (some (.bool b))=some b:=by cases b<;>rfl
theorem Ywj {b:Bool}:CS false (some (.bool b))=some (!b):=by cases b<;>rfl
theorem Yrc {x y:ae}:po (.bool true) x y=some x:=by cases x<;>cases y<;>rfl
theorem Yip {x y:ae}:po (.bool false) x y=some y:=by cases x<;>cases y<;>rfl
attribute [go_sem high] Yrj Ywj Yrc Yip
attribute [go_sem high] Yvk Yr4 Yys Yt8 Zzj Z7 TB Yey Ywt Yqi Yja
attribute [go_sem] UD XY Yut X0 Yvv Yro Yk3 Ywd Ywb XQ Ypd Ysk Yx3 Zw0 Yv2 Zut Zus Zzy Ygd Y3 Zsr Yfa Zzn Yt Zqt Yfr Y2 Ywo JZ JT XU Zuj YN Zth Zv9 Ynl Yki Yj3 Yl7 Ynz Xa Yo1 Yfu Yrt Yu0 Yx2 Yv9 Yhf Ysf Yg2 Yit Yk6 Yo0 Yo2 Ygi Tc X_ ZU Zt6 ZC Yjp Yko Y1 Ymp Ylh Zur Yky Yga Zq7 Zl Yo6 Zvj Zv0 Zuo Yms Yg7 Yj7 Zv4 Ykg Ytl Yu3 Yh9 Yrr Ysp Zzh Ypm Yn2 Zw6 Ylb Yq4 YX Yb Yqm Yr2 Yj8 Yrf Yxu Yuj Ymn Ytf Z0 Ynt Yh2 Za Zq4 Zpi Yhd Zw Ykb Ypp Yr3 Ygm Zw3 Yj0 Yn5 Ygw Yj2 Zzp Zro Zvf Zrk Yx Yi Zq2 Ylx Zx Yix Ylq Z3 Ygp Xz Xq Yw8 Yw4 Yzi Ysu Yqb Yis Yqp Yzj Yxw Yv3 Yyn Ywe Yyc Yw6 Yvo W_ Ywg Yzg Ypa Ysw Yla Ylt Y6 Ytq Yw Zvq Zuz XM Xd Yyo Yqf PL Ym0 Yyg Yzu Yyl Xb Yyv Ywn Ytn Yuq Ys0 Yww Yk8 Yxc YK Yx1 Ytm Ygq XG Yu9 Xn YF Yzb UD Ym4 Ymo X6 Ylr Yhr Yy Zzm Yka La JY Kh Yvy Yvh Yux Ytg Yyw XZ Xl Ys3 Yrd Yt0 Yt3 Ysc Yfj Yjb Ymi Z4 YG Ypv Ylj Yvf Yyr Yvb Ynx Yy9 Xw Yy3 Yiw Yyf Yzr Yz3 Ywa Yzt Ylw Yzs Yll Yyz Ysi X1 Ys2 Zqy Yzq Yrs X2 Yw2 XV X5 XF XA Mw Z6 Ytx Zw5 Yin Yln Yn3 Ykr Xe Xr Zu8 Yty Zvt Ypc Zug Ytr Yo3 Zup Yk7 Ytp Yf Zt Ypk XT Ymw Yxv Yo5 Ygl Yxg Ygr Yhq Yii Yr0 Yqd Yx8 Yjq Xx Yy6 Yxr Yym Yrh Yzh Yzx Yx0 Ywp Yxp Yue Yru W9 Ysg Ywx Ywh Yx6 XH XO Xi ZB Yw7 Yxi Ys6 Yo8 Yrl Yqx Yje Ysm Yjs Yo4 Fv Sn YV Ykw Zd Yhs Ykc Yrq Yrz YS Yns Yf1 YA Yg6 Yqg Yu6 Yzy Yuu Yss Ys8 Yx4 Yzv Yve Yso Yu7 Ywm Yyu Zf Yva Yuk Yvc Ypb Xh PF FE Yvp Yxy Xk Ysv XS QJ Sh XL Yw5 YR Yne Xp Ype Yxk Yx5 Yxf Ytt Yw0 Yxs rI rH jj
attribute [go_sem] Option.bind_some Option.map_some Option.bind_none Option.map_none Option.join_some List.getD_cons_zero List.getD_cons_succ List.set_cons_zero List.set_cons_succ List.length_cons List.length_nil List.all_cons List.all_nil Bool.and_true Bool.true_and Bool.and_false Bool.false_and Bool.or_true Bool.or_false Bool.false_or Bool.true_or and_self if_true if_false Bool.false_eq_true Bool.true_eq_false true_implies false_implies and_true true_and and_false false_and forall_const reduceCtorEq List.nil_append List.replicate_zero List.replicate_succ List.cons_append Nat.lt_irrefl List.getElem?_cons_zero List.getElem?_cons_succ List.getElem?_nil Option.getD_some Option.getD_none List.drop_zero List.drop_succ_cons List.head?_cons ne_eq not_false_eq_true not_true_eq_false List.take_succ_cons List.take_zero List.map_cons List.map_nil List.mapM_cons List.mapM_nil Option.pure_def Option.bind_eq_bind Option.some.injEq exists_eq_left' exists_eq_left or_true true_or or_false false_or beq_self_eq_true decide_true decide_false Bool.not_true Bool.not_false Option.isSome_some Option.isSome_none Option.map_map Nat.zero_add Nat.add_zero
theorem Yq6 {n:Nat}:ae.low n .ig=True:=(Eq.refl _).trans rfl
attribute [go_sem] Yq6 XK Yvj Yyb Yr6 Yy5 Yfl Yex Ymy Ynj Yv4 Xg Yk9 Ytb Yrv XD Yzm Yxa Yy1 Ykz Yt7 Xy Xj XP
attribute [go_sem] Ywr Yjh Yqv Yxt XI Yxn XW Ynf Yyk Zzk Yf4 Yq9 Ym9 Yd Yqo Ym ZZ Yr1 Yu4 Ypn Xv Xm Zzv Yw9 Zqs Xs Yz9 Yjl Yjv
attribute [go_sem low] Yfx Yfo Yy8 Yuy
@[go_sem] theorem Xay:cL 0=6000000000000:=rfl
@[go_sem] theorem Xc0:cL 1=6000000000000:=rfl
@[go_sem] theorem Xbh:cL 2=6000000000000:=rfl
@[go_sem] theorem Xb0:cL 4=6000000000000:=rfl
@[go_sem] theorem Xc5:cL 8=6000000000000:=rfl
@[go_sem] theorem Xae:cL 16=6000000000000:=rfl
@[go_sem] theorem Xah:cL 24=6000000000000:=rfl
@[go_sem] theorem Xak:cL 32=6000000000000:=rfl
@[go_sem] theorem Xat:cL 40=1000000000:=rfl
@[go_sem] theorem Xaj:cL 48=1000000000:=rfl
@[go_sem] theorem Xau:cL 56=1000000000:=rfl
@[go_sem] theorem Xax:cL 64=1000000000:=rfl
@[go_sem] theorem Xar:cL 72=1000000000:=rfl
@[go_sem] theorem Xam:cL 80=1000000000:=rfl
@[go_sem] theorem Xav:cL 88=1000000000:=rfl
@[go_sem] theorem Xas:cL 96=1000000000:=rfl
@[go_sem] theorem Ywv:cL 104=1000000000:=rfl
@[go_sem] theorem Yza:cL 112=1000000000:=rfl
@[go_sem] theorem Yvt:cL 120=1000000000:=rfl
@[go_sem] theorem Yya:cL 128=1000000000:=rfl
@[go_sem] theorem Yvd:cL 136=1000000000:=rfl
@[go_sem] theorem Yyp:cL 144=1000000000:=rfl
@[go_sem] theorem Yvi:cL 152=1000000000:=rfl
@[go_sem] theorem Yyq:cL 160=1000000000:=rfl
@[go_sem] theorem Ywc:cL 168=1000000000:=rfl
@[go_sem] theorem Yz0:cL 176=1000000000:=rfl
@[go_sem] theorem Ywf:cL 184=1000000000:=rfl
@[go_sem] theorem Yz5:cL 192=1000000000:=rfl
@[go_sem] theorem Yzl:cL 200=1000000000:=rfl
@[go_sem] theorem Xa8:cL 208=1000000000:=rfl
@[go_sem] theorem Yvs:cL 216=1000000000:=rfl
@[go_sem] theorem Yw3:cL 224=1000000000:=rfl
@[go_sem] theorem Yvl:cL 232=1000000000:=rfl
@[go_sem] theorem Yzn:cL 240=1000000000:=rfl
@[go_sem] theorem Yyi:cL 248=1000000000:=rfl
@[go_sem] theorem Xac:cL 256=1000000000:=rfl
@[go_sem] theorem Yvm:cL 264=1000000000:=rfl
@[go_sem] theorem Yy4:cL 272=1000000000:=rfl
@[go_sem] theorem Yus:cL 280=1000000000:=rfl
@[go_sem] theorem Yuh:cL 288=1000000000:=rfl
@[go_sem] theorem Yz7:cL 296=1000000000:=rfl
@[go_sem] theorem Yui:cL 304=1000000000:=rfl
@[go_sem] theorem Ywq:cL 312=1000000000:=rfl
@[go_sem] theorem Ywi:cL 320=1000000000:=rfl
@[go_sem] theorem Yz4:cL 328=1000000000:=rfl
@[go_sem] theorem Yvu:cL 336=1000000000:=rfl
@[go_sem] theorem Yxj:cL 344=1000000000:=rfl
@[go_sem] theorem Yzz:cL 352=1000000000:=rfl
@[go_sem] theorem Yzd:cL 360=1000000000:=rfl
@[go_sem] theorem Yx9:cL 368=1000000000:=rfl
@[go_sem] theorem Yv8:cL 376=1000000000:=rfl
@[go_sem] theorem Yyx:cL 384=1000000000:=rfl
@[go_sem] theorem Yxe:cL 392=1000000000:=rfl
@[go_sem] theorem Yv5:cL 400=1000000000:=rfl
end Go.c8
