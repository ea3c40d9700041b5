/- Part 19 of my own framework and of the walks of functions: AbsT. -/
import Derived.Test.YtfjbdamcmiglgaaGreatOwn18
set_option linter.unusedVariables false
set_option linter.unusedSectionVars false
set_option linter.unusedSimpArgs false
namespace Go.cV
open Go
section
variable {P:Program} {lo:Ctx} {Q:cb→St→Prop} {n:Nat} {k:List KI} {tm:List ae} {σ:ai} {all:Array Oper} {l:List Oper}
theorem YW {ι:Type} {I : ι→List ae} {S : ι→ai} {μ : ι→Nat} {x : ι} {s:St}:sq P lo Q k I S μ x .normal s = ∃ y,yE (I y) (S y) s∧μ y < μ x:=(Eq.refl _).trans rfl
theorem Ypv {ι:Type} {I : ι→List ae} {S : ι→ai} {μ : ι→Nat} {x : ι} {s:St} {i:Nat}:sq P lo Q k I S μ x (.exit i) s=aK P lo Q k (.exit i) s:=(Eq.refl _).trans rfl
theorem Ysm {ι:Type} {I : ι→List ae} {S : ι→ai} {μ : ι→Nat} {x : ι} {s:St} {i:Nat}:sq P lo Q k I S μ x (.goto i) s=aK P lo Q k (.goto i) s:=(Eq.refl _).trans rfl
theorem Ysx {ι:Type} {I : ι→List ae} {S : ι→ai} {μ : ι→Nat} {x : ι} {s:St}:sq P lo Q k I S μ x .ret s=aK P lo Q k .ret s:=(Eq.refl _).trans rfl
theorem Xx {rs:List ResultVar} {K:ae→ai→Prop} {s:St}:qm P rs K .normal s = ∃ r,fF P s rs=some r∧K r s.σ:=(Eq.refl _).trans rfl
theorem Ytv {rs:List ResultVar} {K:ae→ai→Prop} {s:St}:qm P rs K .ret s = ∃ r,fF P s rs=some r∧K r s.σ:=(Eq.refl _).trans rfl
theorem Ykq {ι:Type} {I : ι→List ae} {S : ι→ai} {μ : ι→Nat} {x : ι} {s:St} {u:Value}:sq P lo Q k I S μ x (.panic u) s=aK P lo Q k (.panic u) s:=(Eq.refl _).trans rfl
theorem Yxb {r r0:ae}:G0 r r0 σ=pT (fun _=>true) σ r r0:=(Eq.refl _).trans rfl
theorem Yoj {r:ResultVar} {tm:List ae}:fF P ⟨tm,σ⟩ [r]=ql tm σ P r:=by
 simp only [fF,mM,List.mapM_nil]
 cases ql tm σ P r<;>rfl
theorem ZT {tm:List ae}:fF P ⟨tm,σ⟩ []=some (.dy []):=(Eq.refl _).trans rfl
theorem Ys5 {r r':ResultVar} {rs:List ResultVar} {tm:List ae}:fF P ⟨tm,σ⟩ (r :: r' :: rs)=((r :: r' :: rs).mapM (ql tm σ P)).map .dy:=by
 simp only [fF,mM]
 cases ql tm σ P r with
 | none=>rfl
 | some a=>cases ql tm σ P r' with
  | none=>rfl
  | some b=>cases List.mapM (ql tm σ P) rs<;>rfl
theorem Yqc {t:Tmp} {tm:List ae}:ql tm σ P (.tmp t)=some (tm.getD t .undef):=(Eq.refl _).trans rfl
theorem Yig {a:Tmp} {t:TypeId} {tm:List ae}:ql tm σ P (.cell a t)=(aC P t).bind fun l=>iT σ l (tm.getD a .undef):=(Eq.refl _).trans rfl
theorem Yoz {jE:List ae} {σ':ai}:yE jE σ' ⟨tm,σ⟩=(lT jE tm∧ig σ' σ∧bx σ'.length jE∧bt σ'.length σ'):=(Eq.refl _).trans rfl
theorem Z6:lT [] []=True:=(Eq.refl _).trans rfl
theorem WU {b:ae} {ck bs:List ae}:lT (.undef :: ck) (b :: bs)=lT ck bs:=by simp [lT]
theorem Yd {a:ae} {ck bs:List ae}:lT (a :: ck) (a :: bs)=lT ck bs:=by simp [lT]
theorem XI {a b:ae} {ck bs:List ae}:lT (a :: ck) (b :: bs)=((a=b∨a = .undef)∧lT ck bs):=(Eq.refl _).trans rfl
theorem Ykw:ig [] σ=True:=(Eq.refl _).trans rfl
theorem Yk {a b:Option bE} {ck bs:ai}:ig (a :: ck) (b :: bs)=((a=b∨a=none)∧ig ck bs):=(Eq.refl _).trans rfl
theorem YB {b:Option bE} {ck bs:ai}:ig (none :: ck) (b :: bs)=ig ck bs:=by simp [ig]
theorem RZ {a:Option bE} {ck bs:ai}:ig (a :: ck) (a :: bs)=ig ck bs:=by simp [ig]
theorem E2 {n:Nat}:bt n []=True:=(Eq.refl _).trans rfl
theorem Q0 {n:Nat}:bt n (none :: σ)=bt n σ:=by simp [bt,ji]
theorem W3 {n:Nat} {b:bE}:bt n (some b :: σ)=(b.low n∧bt n σ):=(Eq.refl _).trans rfl
theorem Yif {n:Nat}:bx n []=True:=(Eq.refl _).trans rfl
theorem Yh {n:Nat} {a:ae} {ck:List ae}:bx n (a :: ck)=(a.low n∧bx n ck):=(Eq.refl _).trans rfl
theorem Xq {n:Nat}:ae.low n .undef=True:=(Eq.refl _).trans rfl
theorem Yio {n:Nat} {b:Bool}:ae.low n (.bool b)=True:=(Eq.refl _).trans rfl
theorem Yps {n:Nat} {k:IntKind} {i:Int}:ae.low n (.int k i)=True:=(Eq.refl _).trans rfl
theorem Yse {n:Nat} {s:ByteArray}:ae.low n (.str s)=True:=(Eq.refl _).trans rfl
theorem Zzi {n:Nat}:ae.low n .bM=True:=(Eq.refl _).trans rfl
theorem Yii {n:Nat}:ae.low n .aU=True:=(Eq.refl _).trans rfl
theorem Xh {n:Nat}:ae.low n .az=True:=(Eq.refl _).trans rfl
theorem WM {n:Nat}:ae.low n .cy=True:=(Eq.refl _).trans rfl
theorem W_ {n:Nat}:ae.low n .fE=True:=(Eq.refl _).trans rfl
theorem Ype {n:Nat} {v:Value}:ae.low n (.nM v)=True:=(Eq.refl _).trans rfl
theorem Ypj {n b o:Nat}:ae.low n (.ptr b o)=(b<n):=(Eq.refl _).trans rfl
theorem Yth {n b i f:Nat}:ae.low n (.rp b i f)=(b<n):=(Eq.refl _).trans rfl
theorem Ywz {n b o m s:Nat}:ae.low n (.os b o m s)=(b<n):=(Eq.refl _).trans rfl
theorem Yt2 {n b o m c s:Nat}:ae.low n (.oc b o m c s)=(b<n):=(Eq.refl _).trans rfl
theorem Yso {n b:Nat}:ae.low n (.ld b)=(b<n):=(Eq.refl _).trans rfl
theorem Yos {n b:Nat}:ae.low n (.map b)=(b<n):=(Eq.refl _).trans rfl
theorem Yy8 {n b:Nat}:ae.low n (.it b)=(b<n):=(Eq.refl _).trans rfl
theorem Yxv {n:Nat} {cs:List ae}:ae.low n (.pp cs)=bx n cs:=(Eq.refl _).trans rfl
theorem Yt0 {n s:Nat} {cs:List ae}:ae.low n (.ps s cs)=bx n cs:=(Eq.refl _).trans rfl
theorem Yrs {n:Nat} {cs:List ae}:ae.low n (.agg cs)=bx n cs:=(Eq.refl _).trans rfl
theorem Ynu {n:Nat} {cs:List ae}:ae.low n (.dy cs)=bx n cs:=(Eq.refl _).trans rfl
theorem Yuy {n:Nat} {f:FuncId} {a c:List ae}:ae.low n (.fn f a c)=(bx n a∧bx n c):=(Eq.refl _).trans rfl
theorem Yvh {n:Nat} {a c:List ae}:ae.low n (.pm a c)=(bx n a∧bx n c):=(Eq.refl _).trans rfl
theorem Yn {n:Nat} {t:TypeId} {v:ae}:ae.low n (.iface t v)=v.low n:=(Eq.refl _).trans rfl
theorem Yv3 {n:Nat} {cs:List ae}:bE.low n (.var cs)=bx n cs:=(Eq.refl _).trans rfl
theorem Yva {n fz:Nat} {cs:List ae}:bE.low n (.row cs fz)=bx n cs:=(Eq.refl _).trans rfl
theorem Yxx {n:Nat} {a c:List ae} {f:Bool}:bE.low n (.map a c f)=(bx n a∧bx n c):=(Eq.refl _).trans rfl
theorem Yt8 {n:Nat} {ks vs:List ae} {s:List Nat}:bE.low n (.kZ ks vs s)=(bx n ks∧bx n vs):=(Eq.refl _).trans rfl
theorem Ysq {n pos:Nat} {s:ByteArray}:bE.low n (.iter s pos)=True:=(Eq.refl _).trans rfl
theorem O7 {F:Nat→Bool}:kz F σ [] []=True:=by simp [kz]
theorem Fl {F:Nat→Bool} {t a:ae} {ts ck:List ae}:kz F σ (t :: ts) (a :: ck)=(pT F σ t a∧kz F σ ts ck):=by simp [kz]
theorem Ylc {F:Nat→Bool} {ts:List ae}:kz F σ ts ts=True:=eq_true (cH F σ ts)
theorem Yom {F:Nat→Bool} {t:ae}:pT F σ t t=True:=eq_true (vX F σ t)
theorem Yvn {F:Nat→Bool} {cs mV:List ae}:pT F σ (.agg mV) (.agg cs)=kz F σ mV cs:=by simp [pT]
theorem Yt5 {F:Nat→Bool} {cs mV:List ae}:pT F σ (.dy mV) (.dy cs)=kz F σ mV cs:=by simp [pT]
theorem V6 {F:Nat→Bool} {cs mV:List ae}:pT F σ (.pp mV) (.pp cs)=kz F σ mV cs:=by simp [pT]
theorem Ysg {F:Nat→Bool} {s:Nat} {ts:List ae}:pT F σ (.ps s ts) .aU=(ts=[]):=by simp [pT]
theorem Yzj {F:Nat→Bool} {s s':Nat} {ts es:List ae}:pT F σ (.ps s ts) (.ps s' es)=(s'=s∧kz F σ ts es):=by simp [pT]
def yP (F:Nat→Bool) (σ:ai) (ts:List ae) (off n:Nat):Option bE→Prop
 | some (.row es _)=>off+n≤es.length∧kz F σ ts ((es.drop off).take n)
 | _=>False
theorem PW {F:Nat→Bool} {s s' b off n:Nat} {ts:List ae}:pT F σ (.ps s ts) (.os b off n s')=(s'=s∧F b=true∧yP F σ ts off n (bF σ b)):=by
 simp only [pT,yP];cases bF σ b with | none=>rfl | some x=>cases x<;>rfl
theorem Rf {F:Nat→Bool} {ts es:List ae} {off n fz:Nat}:yP F σ ts off n (some (.row es fz))=(off+n≤es.length∧kz F σ ts ((es.drop off).take n)):=(Eq.refl _).trans rfl
theorem V8 {F:Nat→Bool} {a b c d:List ae}:pT F σ (.pm a b) (.pm c d)=(kz F σ a c∧kz F σ b d):=by simp [pT]
def yO (F:Nat→Bool) (σ:ai) (a b:List ae):Option bE→Prop
 | some (.map ks vs _)=>kz F σ a ks∧kz F σ b vs
 | _=>False
theorem Yvc {F:Nat→Bool} {a b:List ae} {m:Nat}:pT F σ (.pm a b) (.map m)=(F m=true∧yO F σ a b (bF σ m)):=by
 simp only [pT,yO];cases bF σ m with | none=>rfl | some x=>cases x<;>rfl
theorem Zzl {F:Nat→Bool} {a b ks vs:List ae} {f:Bool}:yO F σ a b (some (.map ks vs f))=(kz F σ a ks∧kz F σ b vs):=(Eq.refl _).trans rfl
theorem Ymn {F:Nat→Bool} {t t':TypeId} {a b:ae}:pT F σ (.iface t' a) (.iface t b)=(t'=t∧pT F σ a b):=by simp [pT]
theorem Wd {F:Nat→Bool} {f f':FuncId} {a b c d:List ae}:pT F σ (.fn f' a b) (.fn f c d)=(f'=f∧kz F σ a c∧kz F σ b d):=by simp [pT]
theorem Yod {F:Nat→Bool} {b:Bool} {a:ae}:pT F σ (.bool b) a=(a = .bool b):=by simp [pT]
theorem Ytw {F:Nat→Bool} {k:IntKind} {i:Int} {a:ae}:pT F σ (.int k i) a=(a = .int k i):=by simp [pT]
theorem Ywh {F:Nat→Bool} {s:ByteArray} {a:ae}:pT F σ (.str s) a=(a = .str s):=by simp [pT]
theorem Ytr {F:Nat→Bool} {i:Nat}:fA F i []=[]:=(Eq.refl _).trans rfl
theorem Yq8 {F:Nat→Bool} {i:Nat} {b:Option bE} {σ:ai}:fA F i (b :: σ)=(if F i=true then jM b else b) :: fA F (i+1) σ:=(Eq.refl _).trans rfl
theorem Yxr {es:List ae} {fz:Nat}:jM (some (.row es fz))=some (.row es (max fz es.length)):=(Eq.refl _).trans rfl
theorem Yw3 {ks vs:List ae} {f:Bool}:jM (some (.map ks vs f))=some (.map ks vs true):=(Eq.refl _).trans rfl
theorem qC {b:Nat}:among [] b=false:=(Eq.refl _).trans rfl
theorem qB {a b:Nat} {bs:List Nat}:among (a :: bs) b=(a==b||among bs b):=by simp [among]
end
section
variable {P:Program} {lo:Ctx} {Q:cb→St→Prop} {n:Nat} {k:List KI} {tm:List ae} {σ:ai} {all:Array Oper} {l:List Oper} {d:Option Tmp} {tt:TypeId} {ps:String} {af:Array Edge} {gg:Option (Nat×Bool)}
theorem Zzj {bi:Builtin} {args:Array Operand} {ts:Array TypeId}:mz P lo Q (n+1) ⟨d, .call ⟨.builtin bi,args,ts⟩,tt,ps,af,gg⟩ all l k tm σ=lQ P lo Q n (cY P σ σ.length (ev tm) (.call ⟨.builtin bi,args,ts⟩)) d all l k tm:=(Eq.refl _).trans rfl
theorem Yr3 {f:FuncId} {a c:Array Operand}:mz P lo Q (n+1) ⟨d, .makeFunc (.func f) a c,tt,ps,af,gg⟩ all l k tm σ=lQ P lo Q n (cY P σ σ.length (ev tm) (.makeFunc (.func f) a c)) d all l k tm:=(Eq.refl _).trans rfl
theorem Yp3 {x:Operand}:mz P lo Q (n+1) ⟨d, .move x,tt,ps,af,gg⟩ all l k tm σ=lQ P lo Q n (cY P σ σ.length (ev tm) (.move x)) d all l k tm:=(Eq.refl _).trans rfl
theorem Zn {x:Operand}:mz P lo Q (n+1) ⟨d, .assign x,tt,ps,af,gg⟩ all l k tm σ=lQ P lo Q n (cY P σ σ.length (ev tm) (.assign x)) d all l k tm:=(Eq.refl _).trans rfl
theorem Ynx {x:Operand} {y:Operand} {z:Operand}:mz P lo Q (n+1) ⟨d, .pick x y z,tt,ps,af,gg⟩ all l k tm σ=lQ P lo Q n (cY P σ σ.length (ev tm) (.pick x y z)) d all l k tm:=(Eq.refl _).trans rfl
theorem Yl7 {t:TypeId}:mz P lo Q (n+1) ⟨d, .alloc t,tt,ps,af,gg⟩ all l k tm σ=lQ P lo Q n (cY P σ σ.length (ev tm) (.alloc t)) d all l k tm:=(Eq.refl _).trans rfl
theorem Yv8 {t:TypeId} {x:Operand}:mz P lo Q (n+1) ⟨d, .box t x,tt,ps,af,gg⟩ all l k tm σ=lQ P lo Q n (cY P σ σ.length (ev tm) (.box t x)) d all l k tm:=(Eq.refl _).trans rfl
theorem Yk1 {t:TypeId} {pp:Array (Nat×Operand)}:mz P lo Q (n+1) ⟨d, .build t pp,tt,ps,af,gg⟩ all l k tm σ=lQ P lo Q n (cY P σ σ.length (ev tm) (.build t pp)) d all l k tm:=(Eq.refl _).trans rfl
theorem Zo6 {t:TypeId} {m:Nat} {pp:Array (Nat×Operand)}:mz P lo Q (n+1) ⟨d, .buildSlice t m pp,tt,ps,af,gg⟩ all l k tm σ=lQ P lo Q n (cY P σ σ.length (ev tm) (.buildSlice t m pp)) d all l k tm:=(Eq.refl _).trans rfl
theorem Yog {t:TypeId} {x:Operand}:mz P lo Q (n+1) ⟨d, .load t x,tt,ps,af,gg⟩ all l k tm σ=lQ P lo Q n (cY P σ σ.length (ev tm) (.load t x)) d all l k tm:=(Eq.refl _).trans rfl
theorem Yj4 {t:TypeId} {x:Operand} {y:Operand}:mz P lo Q (n+1) ⟨d, .store t x y,tt,ps,af,gg⟩ all l k tm σ=lQ P lo Q n (cY P σ σ.length (ev tm) (.store t x y)) d all l k tm:=(Eq.refl _).trans rfl
theorem Zt2 {x:Operand}:mz P lo Q (n+1) ⟨d, .nilCheck x,tt,ps,af,gg⟩ all l k tm σ=lQ P lo Q n (cY P σ σ.length (ev tm) (.nilCheck x)) d all l k tm:=(Eq.refl _).trans rfl
theorem Z3 {op:BinOp} {t:TypeId} {x:Operand} {y:Operand} {u:TypeId}:mz P lo Q (n+1) ⟨d, .binOp op t x y u,tt,ps,af,gg⟩ all l k tm σ=lQ P lo Q n (cY P σ σ.length (ev tm) (.binOp op t x y u)) d all l k tm:=(Eq.refl _).trans rfl
theorem Ypm {uo:UnOp} {t:TypeId} {x:Operand}:mz P lo Q (n+1) ⟨d, .unOp uo t x,tt,ps,af,gg⟩ all l k tm σ=lQ P lo Q n (cY P σ σ.length (ev tm) (.unOp uo t x)) d all l k tm:=(Eq.refl _).trans rfl
theorem Zyu {t:TypeId} {u:TypeId} {x:Operand}:mz P lo Q (n+1) ⟨d, .convert t u x,tt,ps,af,gg⟩ all l k tm σ=lQ P lo Q n (cY P σ σ.length (ev tm) (.convert t u x)) d all l k tm:=(Eq.refl _).trans rfl
theorem Zj7 {t:TypeId} {x:Operand}:mz P lo Q (n+1) ⟨d, .makeInterface t x,tt,ps,af,gg⟩ all l k tm σ=lQ P lo Q n (cY P σ σ.length (ev tm) (.makeInterface t x)) d all l k tm:=(Eq.refl _).trans rfl
theorem Yll {t:TypeId} {x:Operand} {ox:Option Operand} {oy:Option Operand} {oz:Option Operand}:mz P lo Q (n+1) ⟨d, .slice t x ox oy oz,tt,ps,af,gg⟩ all l k tm σ=lQ P lo Q n (cY P σ σ.length (ev tm) (.slice t x ox oy oz)) d all l k tm:=(Eq.refl _).trans rfl
theorem Zro {t:TypeId} {x:Operand} {m:Nat}:mz P lo Q (n+1) ⟨d, .fieldAddr t x m,tt,ps,af,gg⟩ all l k tm σ=lQ P lo Q n (cY P σ σ.length (ev tm) (.fieldAddr t x m)) d all l k tm:=(Eq.refl _).trans rfl
theorem Yij {t:TypeId} {x:Operand} {m:Nat}:mz P lo Q (n+1) ⟨d, .field t x m,tt,ps,af,gg⟩ all l k tm σ=lQ P lo Q n (cY P σ σ.length (ev tm) (.field t x m)) d all l k tm:=(Eq.refl _).trans rfl
theorem Zpj {t:TypeId} {x:Operand} {y:Operand}:mz P lo Q (n+1) ⟨d, .indexAddr t x y,tt,ps,af,gg⟩ all l k tm σ=lQ P lo Q n (cY P σ σ.length (ev tm) (.indexAddr t x y)) d all l k tm:=(Eq.refl _).trans rfl
theorem Yl4 {t:TypeId} {x:Operand} {y:Operand}:mz P lo Q (n+1) ⟨d, .index t x y,tt,ps,af,gg⟩ all l k tm σ=lQ P lo Q n (cY P σ σ.length (ev tm) (.index t x y)) d all l k tm:=(Eq.refl _).trans rfl
theorem XM {t:TypeId} {x:Operand} {y:Operand} {b:Bool}:mz P lo Q (n+1) ⟨d, .lookup t x y b,tt,ps,af,gg⟩ all l k tm σ=lQ P lo Q n (cY P σ σ.length (ev tm) (.lookup t x y b)) d all l k tm:=(Eq.refl _).trans rfl
theorem Zq1 {t:TypeId} {x:Operand} {y:Operand} {z:Operand}:mz P lo Q (n+1) ⟨d, .mapUpdate t x y z,tt,ps,af,gg⟩ all l k tm σ=lQ P lo Q n (cY P σ σ.length (ev tm) (.mapUpdate t x y z)) d all l k tm:=(Eq.refl _).trans rfl
theorem Zr {t:TypeId} {x:Operand} {y:Operand} {z:Operand}:mz P lo Q (n+1) ⟨d, .insert t x y z,tt,ps,af,gg⟩ all l k tm σ=lQ P lo Q n (cY P σ σ.length (ev tm) (.insert t x y z)) d all l k tm:=(Eq.refl _).trans rfl
theorem ZE {t:TypeId} {x:Operand}:mz P lo Q (n+1) ⟨d, .range t x,tt,ps,af,gg⟩ all l k tm σ=lQ P lo Q n (cY P σ σ.length (ev tm) (.range t x)) d all l k tm:=(Eq.refl _).trans rfl
theorem Ysn {x:Operand}:mz P lo Q (n+1) ⟨d, .next x true,tt,ps,af,gg⟩ all l k tm σ=lQ P lo Q n (cY P σ σ.length (ev tm) (.next x true)) d all l k tm:=(Eq.refl _).trans rfl
theorem Yim {x:Operand}:mz P lo Q (n+1) ⟨d, .entry x,tt,ps,af,gg⟩ all l k tm σ=lQ P lo Q n (cY P σ σ.length (ev tm) (.entry x)) d all l k tm:=(Eq.refl _).trans rfl
theorem Yiy {x:Operand}:mz P lo Q (n+1) ⟨d, .next x false,tt,ps,af,gg⟩ all l k tm σ=nextQ (ev tm x) σ fun r σ'=>aK P lo Q (.ops all l :: k) .normal ⟨put tm d r,σ'⟩:=(Eq.refl _).trans rfl
theorem Zp8 {x:Operand} {t:TypeId} {u:TypeId} {b:Bool}:mz P lo Q (n+1) ⟨d, .typeAssert x t u b,tt,ps,af,gg⟩ all l k tm σ=lQ P lo Q n (cY P σ σ.length (ev tm) (.typeAssert x t u b)) d all l k tm:=(Eq.refl _).trans rfl
theorem Zz9 {x:Operand} {m:Nat}:mz P lo Q (n+1) ⟨d, .extract x m,tt,ps,af,gg⟩ all l k tm σ=lQ P lo Q n (cY P σ σ.length (ev tm) (.extract x m)) d all l k tm:=(Eq.refl _).trans rfl
theorem Zrn {t:TypeId} {x:Operand} {y:Operand}:mz P lo Q (n+1) ⟨d, .makeSlice t x y,tt,ps,af,gg⟩ all l k tm σ=lQ P lo Q n (cY P σ σ.length (ev tm) (.makeSlice t x y)) d all l k tm:=(Eq.refl _).trans rfl
theorem Zyi {t:TypeId} {ox:Option Operand}:mz P lo Q (n+1) ⟨d, .makeMap t ox,tt,ps,af,gg⟩ all l k tm σ=lQ P lo Q n (cY P σ σ.length (ev tm) (.makeMap t ox)) d all l k tm:=(Eq.refl _).trans rfl
end
attribute [go_sem] Zzj Yr3 Yp3 Zn Ynx Yl7 Yv8 Yk1 Zo6 Yog Yj4 Zt2 Z3 Ypm Zyu Zj7 Yll Zro Yij Zpj Yl4 XM Zq1 Zr ZE Ysn Yiy Yim Zp8 Zz9 Zrn Zyi
theorem Yrt {b:Bool}:CI true (some (.bool b))=some b:=by cases b<;>rfl
theorem Yu1 {b:Bool}:CI false (some (.bool b))=some (!b):=by cases b<;>rfl
theorem Yqe {x y:ae}:oX (.bool true) x y=some x:=by cases x<;>cases y<;>rfl
theorem Z1 {x y:ae}:oX (.bool false) x y=some y:=by cases x<;>cases y<;>rfl
attribute [go_sem high] Yrt Yu1 Yqe Z1
attribute [go_sem high] Yxo Yo3 Yu5 Ysc WU Yd RZ YB Yul Yom Ylc
attribute [go_sem] UK Yz8 Yw9 V_ Ytj Ypw Yjr Ytu Yv9 V3 Yqr Yop Yy2 Zvk Yun Zug Zut WI YF Zzb Zq9 YU Zz1 Zyp Zpp Zx Zz6 Yyg Jv Jr Wh Zt9 Zzs Zsg Zu2 Yke ZR Yjk Ylt Yih Yv5 Yjj Yt Yr1 Ysa Yxp Ywf XE Yrb YT Yiw Z5 Yjy Yjx Xb R0 Zyf Yz Zrs Xj Yma Ymy WK Z7 Yjh Zvd Yk2 Zd Zsl YH Yjn Zt4 Zur Zu0 Yj2 Ym Z2 Zta Ymh Yrw Yrf YK Ypd Ypu W0 Ys6 Yky Zu1 Yj5 Yp5 W5 WN Yra Yq7 ZG Yqh Yxs Yx6 Z_ Yqd Zp Yje YQ Y6 Zoe Zp2 Zj XR Yir Yns Yok Xi Ztl Yju ZH Xu Yk6 W1 Zqg Zuk Zrl Zyr Wx Zoi Yld Yr Ykk Yko XO XJ Yzc Yzo Ywo Yu8 Yw7 Yq5 Yp7 Yl3 Yoe Yus Yx8 Ysz Yvp Yu7 Yu0 Ytm Ywg Yyb Yum Yvv Yql Yq1 Ym8 Ylp WS Yrx WH Zu3 Ztm Wq Yuv Yvi Yrl O6 Ymt Ytp Yx1 Yub Yxm Yvj Ywq Yrp Yxy Ys0 Yxz Yk0 Yvk Zzp Yt6 Yrh Y_ Yzd Yo2 Wc WW Yy3 UK Yix Ylg WL Ymw X4 Zzq Zzt Yjo K9 JA JQ Yw6 Yuk Yxd Yrm Ywn Yzk Yzf Yoo Yr4 Yrj Yqo Yqu YR Ykm Ykp X9 Zz7 Ypf Yl2 Ywb Ywt Yu3 Yjb Yto Yz7 Ytx Ymk Yyl Yve Yut Yx4 Yuh Ymb Yvf Yj8 Ytf Yr5 V7 Ysf Zst Yy9 Yq6 Wf Yv2 Wm Yzw Wt V2 LZ Xt Yr0 Zul Yk7 Ylq Yjt Yja Yup Yzs Zt5 Yro Zui Yrr Ztx Yrv Ylm Zuu Ym7 Yp9 Zzg YX Yqn V9 Yjc Yvb Ykv Yg Yxa Zm XB YW Ypv Ysm Ysx Ykq Wb Yvs Yxj Yti Yr9 Yv1 Ytz Yux Yuz Ysu Yo7 Yon Yur Ypp Yxg Ysy Yu9 Wj Yzu Yxi Xx Ytv Yxb Yoj ZT Ys5 Yqc Yig Yoz Z6 Ykw E2 Q0 W3 Yif Yh Xq Yio Yps Yse Zzi Yii Xh WM W_ Ype Ypj Yth Ywz Yso Yos Yy8 Yxv Yt0 Yrs Ynu Yuy Yvh Yn Yv3 Yva Yxx Ysq Yt8 O7 Fl Yvn Yt5 V6 Ysg Yzj PW Rf V8 Yvc Zzl Ymn Wd Yod Ytw Ywh Ytr Yq8 Yxr Yw3 qC qB jd
attribute [go_sem] Option.bind_some Option.map_some Option.bind_none Option.map_none Option.join_some List.getD_cons_zero List.getD_cons_succ List.set_cons_zero List.set_cons_succ List.length_cons List.length_nil List.all_cons List.all_nil Bool.and_true Bool.true_and Bool.and_false Bool.false_and Bool.or_true Bool.or_false Bool.false_or Bool.true_or and_self if_true if_false Bool.false_eq_true Bool.true_eq_false true_implies false_implies and_true true_and and_false false_and forall_const reduceCtorEq List.nil_append List.replicate_zero List.replicate_succ List.cons_append Nat.lt_irrefl List.getElem?_cons_zero List.getElem?_cons_succ List.getElem?_nil Option.getD_some Option.getD_none List.drop_zero List.drop_succ_cons List.head?_cons ne_eq not_false_eq_true not_true_eq_false List.take_succ_cons List.take_zero List.map_cons List.map_nil List.mapM_cons List.mapM_nil Option.pure_def Option.bind_eq_bind Option.some.injEq exists_eq_left' exists_eq_left or_true true_or or_false false_or beq_self_eq_true decide_true decide_false Bool.not_true Bool.not_false Option.isSome_some Option.isSome_none Option.map_map Nat.zero_add Nat.add_zero
theorem Yo1 {n:Nat}:ae.low n .gZ=True:=(Eq.refl _).trans rfl
attribute [go_sem] Yo1 Ws Ywp Yx9 Ys8 Yy4 YS XG Ymg Yjq Yvr Ytk Ymp Yqf Yox Yzx Yxt Yts Yww Ym1 Ypl Yzb Yz6 V5
attribute [go_sem] Yt2 Ymq Ys1 Yya Yzh Ytc Wn Yj9 Yyc Zz2 XL Yob Yjm Wy Yri Zz0 Zs Yo9 Ysj Ypx Yza Wa W7 Yta Zrf Yzn Yyh Yk4 Yjz
attribute [go_sem low] XI Yk Ysw Ywk
@[go_sem] theorem Yzm:cK 0=6000000000000:=rfl
@[go_sem] theorem Yze:cK 1=6000000000000:=rfl
@[go_sem] theorem Xal:cK 2=6000000000000:=rfl
@[go_sem] theorem Yzz:cK 4=6000000000000:=rfl
@[go_sem] theorem Xan:cK 8=6000000000000:=rfl
@[go_sem] theorem Yym:cK 16=6000000000000:=rfl
@[go_sem] theorem Yyo:cK 24=6000000000000:=rfl
@[go_sem] theorem Yz2:cK 32=6000000000000:=rfl
@[go_sem] theorem Yz1:cK 40=1000000000:=rfl
@[go_sem] theorem Yys:cK 48=1000000000:=rfl
@[go_sem] theorem Yz3:cK 56=1000000000:=rfl
@[go_sem] theorem Yyu:cK 64=1000000000:=rfl
@[go_sem] theorem Yz4:cK 72=1000000000:=rfl
@[go_sem] theorem Yyv:cK 80=1000000000:=rfl
@[go_sem] theorem Yyq:cK 88=1000000000:=rfl
@[go_sem] theorem Yyz:cK 96=1000000000:=rfl
@[go_sem] theorem Yvu:cK 104=1000000000:=rfl
@[go_sem] theorem Yua:cK 112=1000000000:=rfl
@[go_sem] theorem Yyd:cK 120=1000000000:=rfl
@[go_sem] theorem Yvx:cK 128=1000000000:=rfl
@[go_sem] theorem Yvq:cK 136=1000000000:=rfl
@[go_sem] theorem Yx5:cK 144=1000000000:=rfl
@[go_sem] theorem Yvo:cK 152=1000000000:=rfl
@[go_sem] theorem Yu6:cK 160=1000000000:=rfl
@[go_sem] theorem Ytt:cK 168=1000000000:=rfl
@[go_sem] theorem Yx7:cK 176=1000000000:=rfl
@[go_sem] theorem Yvg:cK 184=1000000000:=rfl
@[go_sem] theorem Ywx:cK 192=1000000000:=rfl
@[go_sem] theorem Ywj:cK 200=1000000000:=rfl
@[go_sem] theorem Yuc:cK 208=1000000000:=rfl
@[go_sem] theorem Yt1:cK 216=1000000000:=rfl
@[go_sem] theorem Ytq:cK 224=1000000000:=rfl
@[go_sem] theorem Yvt:cK 232=1000000000:=rfl
@[go_sem] theorem Ywe:cK 240=1000000000:=rfl
@[go_sem] theorem Ywy:cK 248=1000000000:=rfl
@[go_sem] theorem Yu2:cK 256=1000000000:=rfl
@[go_sem] theorem Yy6:cK 264=1000000000:=rfl
@[go_sem] theorem Yuf:cK 272=1000000000:=rfl
@[go_sem] theorem Yyi:cK 280=1000000000:=rfl
@[go_sem] theorem Yt9:cK 288=1000000000:=rfl
@[go_sem] theorem Ywu:cK 296=1000000000:=rfl
@[go_sem] theorem Yty:cK 304=1000000000:=rfl
@[go_sem] theorem Yx0:cK 312=1000000000:=rfl
@[go_sem] theorem Yuj:cK 320=1000000000:=rfl
@[go_sem] theorem Yxk:cK 328=1000000000:=rfl
@[go_sem] theorem Yw0:cK 336=1000000000:=rfl
@[go_sem] theorem Ytd:cK 344=1000000000:=rfl
@[go_sem] theorem Yy1:cK 352=1000000000:=rfl
@[go_sem] theorem Yud:cK 360=1000000000:=rfl
@[go_sem] theorem Ywi:cK 368=1000000000:=rfl
@[go_sem] theorem Yxc:cK 376=1000000000:=rfl
@[go_sem] theorem Ysv:cK 384=1000000000:=rfl
@[go_sem] theorem Yu4:cK 392=1000000000:=rfl
@[go_sem] theorem Yvw:cK 400=1000000000:=rfl
end Go.cV
