/- Part 19 of my own framework and of the walks of functions: AbsT. -/
import Derived.Test.YtfjbdamcmiglgaaGreatOwn18
set_option linter.unusedVariables false
set_option linter.unusedSectionVars false
set_option linter.unusedSimpArgs false
namespace Go.c8
open Go
section
variable {P:Program} {lo:Ctx} {Q:b9→St→Prop} {n:Nat} {k:List KI} {tm:List ae} {σ:ai} {all:Array Oper} {l:List Oper}
theorem W_ {ι:Type} {I : ι→List ae} {S : ι→ai} {μ : ι→Nat} {x : ι} {s:St}:r9 P lo Q k I S μ x .normal s = ∃ y,yz (I y) (S y) s∧μ y < μ x:=(Eq.refl _).trans rfl
theorem Yo9 {ι:Type} {I : ι→List ae} {S : ι→ai} {μ : ι→Nat} {x : ι} {s:St} {i:Nat}:r9 P lo Q k I S μ x (.exit i) s=aK P lo Q k (.exit i) s:=(Eq.refl _).trans rfl
theorem Yr5 {ι:Type} {I : ι→List ae} {S : ι→ai} {μ : ι→Nat} {x : ι} {s:St} {i:Nat}:r9 P lo Q k I S μ x (.goto i) s=aK P lo Q k (.goto i) s:=(Eq.refl _).trans rfl
theorem Yx3 {ι:Type} {I : ι→List ae} {S : ι→ai} {μ : ι→Nat} {x : ι} {s:St}:r9 P lo Q k I S μ x .ret s=aK P lo Q k .ret s:=(Eq.refl _).trans rfl
theorem YD {rs:List ResultVar} {K:ae→ai→Prop} {s:St}:qf P rs K .normal s = ∃ r,fD P s rs=some r∧K r s.σ:=(Eq.refl _).trans rfl
theorem Yte {rs:List ResultVar} {K:ae→ai→Prop} {s:St}:qf P rs K .ret s = ∃ r,fD P s rs=some r∧K r s.σ:=(Eq.refl _).trans rfl
theorem Y_ {ι:Type} {I : ι→List ae} {S : ι→ai} {μ : ι→Nat} {x : ι} {s:St} {u:Value}:r9 P lo Q k I S μ x (.panic u) s=aK P lo Q k (.panic u) s:=(Eq.refl _).trans rfl
theorem Yvy {r r0:ae}:GQ r r0 σ=pT (fun _=>true) σ r r0:=(Eq.refl _).trans rfl
theorem Yo2 {r:ResultVar} {tm:List ae}:fD P ⟨tm,σ⟩ [r]=qe tm σ P r:=by
 simp only [fD,mN,List.mapM_nil]
 cases qe tm σ P r<;>rfl
theorem Yli {tm:List ae}:fD P ⟨tm,σ⟩ []=some (.dz []):=(Eq.refl _).trans rfl
theorem Ypo {r r':ResultVar} {rs:List ResultVar} {tm:List ae}:fD P ⟨tm,σ⟩ (r :: r' :: rs)=((r :: r' :: rs).mapM (qe tm σ P)).map .dz:=by
 simp only [fD,mN]
 cases qe tm σ P r with
 | none=>rfl
 | some a=>cases qe tm σ P r' with
  | none=>rfl
  | some b=>cases List.mapM (qe tm σ P) rs<;>rfl
theorem Yp0 {t:Tmp} {tm:List ae}:qe tm σ P (.tmp t)=some (tm.getD t .undef):=(Eq.refl _).trans rfl
theorem Yjj {a:Tmp} {t:TypeId} {tm:List ae}:qe tm σ P (.cell a t)=(aC P t).bind fun l=>iS σ l (tm.getD a .undef):=(Eq.refl _).trans rfl
theorem Yqg {jE:List ae} {σ':ai}:yz jE σ' ⟨tm,σ⟩=(lV jE tm∧ic σ' σ∧bx σ'.length jE∧bt σ'.length σ'):=(Eq.refl _).trans rfl
theorem Yke:lV [] []=True:=(Eq.refl _).trans rfl
theorem Wv {b:ae} {cj bs:List ae}:lV (.undef :: cj) (b :: bs)=lV cj bs:=by simp [lV]
theorem YG {a:ae} {cj bs:List ae}:lV (a :: cj) (a :: bs)=lV cj bs:=by simp [lV]
theorem WL {a b:ae} {cj bs:List ae}:lV (a :: cj) (b :: bs)=((a=b∨a = .undef)∧lV cj bs):=(Eq.refl _).trans rfl
theorem Yku:ic [] σ=True:=(Eq.refl _).trans rfl
theorem YA {a b:Option bE} {cj bs:ai}:ic (a :: cj) (b :: bs)=((a=b∨a=none)∧ic cj bs):=(Eq.refl _).trans rfl
theorem Yv {b:Option bE} {cj bs:ai}:ic (none :: cj) (b :: bs)=ic cj bs:=by simp [ic]
theorem SZ {a:Option bE} {cj bs:ai}:ic (a :: cj) (a :: bs)=ic cj bs:=by simp [ic]
theorem EZ {n:Nat}:bt n []=True:=(Eq.refl _).trans rfl
theorem QU {n:Nat}:bt n (none :: σ)=bt n σ:=by simp [bt,jg]
theorem Zzd {n:Nat} {b:bE}:bt n (some b :: σ)=(b.low n∧bt n σ):=(Eq.refl _).trans rfl
theorem Ym2 {n:Nat}:bx n []=True:=(Eq.refl _).trans rfl
theorem Yw {n:Nat} {a:ae} {cj:List ae}:bx n (a :: cj)=(a.low n∧bx n cj):=(Eq.refl _).trans rfl
theorem WR {n:Nat}:ae.low n .undef=True:=(Eq.refl _).trans rfl
theorem Ymi {n:Nat} {b:Bool}:ae.low n (.bool b)=True:=(Eq.refl _).trans rfl
theorem Ypz {n:Nat} {k:IntKind} {i:Int}:ae.low n (.int k i)=True:=(Eq.refl _).trans rfl
theorem Yo1 {n:Nat} {s:ByteArray}:ae.low n (.str s)=True:=(Eq.refl _).trans rfl
theorem Wx {n:Nat}:ae.low n .bM=True:=(Eq.refl _).trans rfl
theorem ZQ {n:Nat}:ae.low n .aU=True:=(Eq.refl _).trans rfl
theorem YS {n:Nat}:ae.low n .az=True:=(Eq.refl _).trans rfl
theorem Zyf {n:Nat}:ae.low n .cw=True:=(Eq.refl _).trans rfl
theorem W7 {n:Nat}:ae.low n .fC=True:=(Eq.refl _).trans rfl
theorem Ypf {n:Nat} {v:Value}:ae.low n (.nL v)=True:=(Eq.refl _).trans rfl
theorem Yrc {n b o:Nat}:ae.low n (.ptr b o)=(b<n):=(Eq.refl _).trans rfl
theorem Ywm {n b i f:Nat}:ae.low n (.rp b i f)=(b<n):=(Eq.refl _).trans rfl
theorem Yvu {n b o m s:Nat}:ae.low n (.os b o m s)=(b<n):=(Eq.refl _).trans rfl
theorem Ysq {n b o m c s:Nat}:ae.low n (.oc b o m c s)=(b<n):=(Eq.refl _).trans rfl
theorem Yoh {n b:Nat}:ae.low n (.ld b)=(b<n):=(Eq.refl _).trans rfl
theorem Yqs {n b:Nat}:ae.low n (.map b)=(b<n):=(Eq.refl _).trans rfl
theorem Ytt {n b:Nat}:ae.low n (.it b)=(b<n):=(Eq.refl _).trans rfl
theorem Ytg {n:Nat} {cs:List ae}:ae.low n (.pp cs)=bx n cs:=(Eq.refl _).trans rfl
theorem Yxp {n s:Nat} {cs:List ae}:ae.low n (.ps s cs)=bx n cs:=(Eq.refl _).trans rfl
theorem Yq2 {n:Nat} {cs:List ae}:ae.low n (.agg cs)=bx n cs:=(Eq.refl _).trans rfl
theorem Yrk {n:Nat} {cs:List ae}:ae.low n (.dz cs)=bx n cs:=(Eq.refl _).trans rfl
theorem Yu2 {n:Nat} {f:FuncId} {a c:List ae}:ae.low n (.fn f a c)=(bx n a∧bx n c):=(Eq.refl _).trans rfl
theorem Yu1 {n:Nat} {a c:List ae}:ae.low n (.pm a c)=(bx n a∧bx n c):=(Eq.refl _).trans rfl
theorem WO {n:Nat} {t:TypeId} {v:ae}:ae.low n (.iface t v)=v.low n:=(Eq.refl _).trans rfl
theorem Yup {n:Nat} {cs:List ae}:bE.low n (.var cs)=bx n cs:=(Eq.refl _).trans rfl
theorem Ywt {n fz:Nat} {cs:List ae}:bE.low n (.row cs fz)=bx n cs:=(Eq.refl _).trans rfl
theorem Yv0 {n:Nat} {a c:List ae} {f:Bool}:bE.low n (.map a c f)=(bx n a∧bx n c):=(Eq.refl _).trans rfl
theorem Yt6 {n:Nat} {ks vs:List ae} {s:List Nat}:bE.low n (.kZ ks vs s)=(bx n ks∧bx n vs):=(Eq.refl _).trans rfl
theorem Ysc {n pos:Nat} {s:ByteArray}:bE.low n (.iter s pos)=True:=(Eq.refl _).trans rfl
theorem Ob {F:Nat→Bool}:kB F σ [] []=True:=by simp [kB]
theorem E5 {F:Nat→Bool} {t a:ae} {ts cj:List ae}:kB F σ (t :: ts) (a :: cj)=(pT F σ t a∧kB F σ ts cj):=by simp [kB]
theorem Yk6 {F:Nat→Bool} {ts:List ae}:kB F σ ts ts=True:=eq_true (cE F σ ts)
theorem Yo3 {F:Nat→Bool} {t:ae}:pT F σ t t=True:=eq_true (vR F σ t)
theorem Yt7 {F:Nat→Bool} {cs mW:List ae}:pT F σ (.agg mW) (.agg cs)=kB F σ mW cs:=by simp [pT]
theorem Ytw {F:Nat→Bool} {cs mW:List ae}:pT F σ (.dz mW) (.dz cs)=kB F σ mW cs:=by simp [pT]
theorem Yzm {F:Nat→Bool} {cs mW:List ae}:pT F σ (.pp mW) (.pp cs)=kB F σ mW cs:=by simp [pT]
theorem Ynk {F:Nat→Bool} {s:Nat} {ts:List ae}:pT F σ (.ps s ts) .aU=(ts=[]):=by simp [pT]
theorem Yzk {F:Nat→Bool} {s s':Nat} {ts es:List ae}:pT F σ (.ps s ts) (.ps s' es)=(s'=s∧kB F σ ts es):=by simp [pT]
def yK (F:Nat→Bool) (σ:ai) (ts:List ae) (off n:Nat):Option bE→Prop
 | some (.row es _)=>off+n≤es.length∧kB F σ ts ((es.drop off).take n)
 | _=>False
theorem PJ {F:Nat→Bool} {s s' b off n:Nat} {ts:List ae}:pT F σ (.ps s ts) (.os b off n s')=(s'=s∧F b=true∧yK F σ ts off n (bG σ b)):=by
 simp only [pT,yK];cases bG σ b with | none=>rfl | some x=>cases x<;>rfl
theorem Rj {F:Nat→Bool} {ts es:List ae} {off n fz:Nat}:yK F σ ts off n (some (.row es fz))=(off+n≤es.length∧kB F σ ts ((es.drop off).take n)):=(Eq.refl _).trans rfl
theorem Yz2 {F:Nat→Bool} {a b c d:List ae}:pT F σ (.pm a b) (.pm c d)=(kB F σ a c∧kB F σ b d):=by simp [pT]
def yJ (F:Nat→Bool) (σ:ai) (a b:List ae):Option bE→Prop
 | some (.map ks vs _)=>kB F σ a ks∧kB F σ b vs
 | _=>False
theorem Yto {F:Nat→Bool} {a b:List ae} {m:Nat}:pT F σ (.pm a b) (.map m)=(F m=true∧yJ F σ a b (bG σ m)):=by
 simp only [pT,yJ];cases bG σ m with | none=>rfl | some x=>cases x<;>rfl
theorem V1 {F:Nat→Bool} {a b ks vs:List ae} {f:Bool}:yJ F σ a b (some (.map ks vs f))=(kB F σ a ks∧kB F σ b vs):=(Eq.refl _).trans rfl
theorem Yma {F:Nat→Bool} {t t':TypeId} {a b:ae}:pT F σ (.iface t' a) (.iface t b)=(t'=t∧pT F σ a b):=by simp [pT]
theorem VZ {F:Nat→Bool} {f f':FuncId} {a b c d:List ae}:pT F σ (.fn f' a b) (.fn f c d)=(f'=f∧kB F σ a c∧kB F σ b d):=by simp [pT]
theorem Yon {F:Nat→Bool} {b:Bool} {a:ae}:pT F σ (.bool b) a=(a = .bool b):=by simp [pT]
theorem Yxg {F:Nat→Bool} {k:IntKind} {i:Int} {a:ae}:pT F σ (.int k i) a=(a = .int k i):=by simp [pT]
theorem Yxd {F:Nat→Bool} {s:ByteArray} {a:ae}:pT F σ (.str s) a=(a = .str s):=by simp [pT]
theorem Yuv {F:Nat→Bool} {i:Nat}:fM F i []=[]:=(Eq.refl _).trans rfl
theorem Yrp {F:Nat→Bool} {i:Nat} {b:Option bE} {σ:ai}:fM F i (b :: σ)=(if F i=true then jM b else b) :: fM F (i+1) σ:=(Eq.refl _).trans rfl
theorem Ywu {es:List ae} {fz:Nat}:jM (some (.row es fz))=some (.row es (max fz es.length)):=(Eq.refl _).trans rfl
theorem Yx5 {ks vs:List ae} {f:Bool}:jM (some (.map ks vs f))=some (.map ks vs true):=(Eq.refl _).trans rfl
theorem rh {b:Nat}:among [] b=false:=(Eq.refl _).trans rfl
theorem rf {a b:Nat} {bs:List Nat}:among (a :: bs) b=(a==b||among bs b):=by simp [among]
end
section
variable {P:Program} {lo:Ctx} {Q:b9→St→Prop} {n:Nat} {k:List KI} {tm:List ae} {σ:ai} {all:Array Oper} {l:List Oper} {d:Option Tmp} {tt:TypeId} {ps:String} {af:Array Edge} {gg:Option (Nat×Bool)}
theorem Zym {bi:Builtin} {args:Array Operand} {ts:Array TypeId}:mA P lo Q (n+1) ⟨d, .call ⟨.builtin bi,args,ts⟩,tt,ps,af,gg⟩ all l k tm σ=lS P lo Q n (cY P σ σ.length (ev tm) (.call ⟨.builtin bi,args,ts⟩)) d all l k tm:=(Eq.refl _).trans rfl
theorem Ypr {f:FuncId} {a c:Array Operand}:mA P lo Q (n+1) ⟨d, .makeFunc (.func f) a c,tt,ps,af,gg⟩ all l k tm σ=lS P lo Q n (cY P σ σ.length (ev tm) (.makeFunc (.func f) a c)) d all l k tm:=(Eq.refl _).trans rfl
theorem Ys1 {x:Operand}:mA P lo Q (n+1) ⟨d, .move x,tt,ps,af,gg⟩ all l k tm σ=lS P lo Q n (cY P σ σ.length (ev tm) (.move x)) d all l k tm:=(Eq.refl _).trans rfl
theorem Xp {x:Operand}:mA P lo Q (n+1) ⟨d, .assign x,tt,ps,af,gg⟩ all l k tm σ=lS P lo Q n (cY P σ σ.length (ev tm) (.assign x)) d all l k tm:=(Eq.refl _).trans rfl
theorem Yqa {x:Operand} {y:Operand} {z:Operand}:mA P lo Q (n+1) ⟨d, .pick x y z,tt,ps,af,gg⟩ all l k tm σ=lS P lo Q n (cY P σ σ.length (ev tm) (.pick x y z)) d all l k tm:=(Eq.refl _).trans rfl
theorem Ylz {t:TypeId}:mA P lo Q (n+1) ⟨d, .alloc t,tt,ps,af,gg⟩ all l k tm σ=lS P lo Q n (cY P σ σ.length (ev tm) (.alloc t)) d all l k tm:=(Eq.refl _).trans rfl
theorem Yvd {t:TypeId} {x:Operand}:mA P lo Q (n+1) ⟨d, .box t x,tt,ps,af,gg⟩ all l k tm σ=lS P lo Q n (cY P σ σ.length (ev tm) (.box t x)) d all l k tm:=(Eq.refl _).trans rfl
theorem Ylp {t:TypeId} {pp:Array (Nat×Operand)}:mA P lo Q (n+1) ⟨d, .build t pp,tt,ps,af,gg⟩ all l k tm σ=lS P lo Q n (cY P σ σ.length (ev tm) (.build t pp)) d all l k tm:=(Eq.refl _).trans rfl
theorem Zom {t:TypeId} {m:Nat} {pp:Array (Nat×Operand)}:mA P lo Q (n+1) ⟨d, .buildSlice t m pp,tt,ps,af,gg⟩ all l k tm σ=lS P lo Q n (cY P σ σ.length (ev tm) (.buildSlice t m pp)) d all l k tm:=(Eq.refl _).trans rfl
theorem Yrj {t:TypeId} {x:Operand}:mA P lo Q (n+1) ⟨d, .load t x,tt,ps,af,gg⟩ all l k tm σ=lS P lo Q n (cY P σ σ.length (ev tm) (.load t x)) d all l k tm:=(Eq.refl _).trans rfl
theorem ZI {t:TypeId} {x:Operand} {y:Operand}:mA P lo Q (n+1) ⟨d, .store t x y,tt,ps,af,gg⟩ all l k tm σ=lS P lo Q n (cY P σ σ.length (ev tm) (.store t x y)) d all l k tm:=(Eq.refl _).trans rfl
theorem Zt6 {x:Operand}:mA P lo Q (n+1) ⟨d, .nilCheck x,tt,ps,af,gg⟩ all l k tm σ=lS P lo Q n (cY P σ σ.length (ev tm) (.nilCheck x)) d all l k tm:=(Eq.refl _).trans rfl
theorem Ymh {op:BinOp} {t:TypeId} {x:Operand} {y:Operand} {u:TypeId}:mA P lo Q (n+1) ⟨d, .binOp op t x y u,tt,ps,af,gg⟩ all l k tm σ=lS P lo Q n (cY P σ σ.length (ev tm) (.binOp op t x y u)) d all l k tm:=(Eq.refl _).trans rfl
theorem Yob {uo:UnOp} {t:TypeId} {x:Operand}:mA P lo Q (n+1) ⟨d, .unOp uo t x,tt,ps,af,gg⟩ all l k tm σ=lS P lo Q n (cY P σ σ.length (ev tm) (.unOp uo t x)) d all l k tm:=(Eq.refl _).trans rfl
theorem Zzi {t:TypeId} {u:TypeId} {x:Operand}:mA P lo Q (n+1) ⟨d, .convert t u x,tt,ps,af,gg⟩ all l k tm σ=lS P lo Q n (cY P σ σ.length (ev tm) (.convert t u x)) d all l k tm:=(Eq.refl _).trans rfl
theorem Zja {t:TypeId} {x:Operand}:mA P lo Q (n+1) ⟨d, .makeInterface t x,tt,ps,af,gg⟩ all l k tm σ=lS P lo Q n (cY P σ σ.length (ev tm) (.makeInterface t x)) d all l k tm:=(Eq.refl _).trans rfl
theorem Ym8 {t:TypeId} {x:Operand} {ox:Option Operand} {oy:Option Operand} {oz:Option Operand}:mA P lo Q (n+1) ⟨d, .slice t x ox oy oz,tt,ps,af,gg⟩ all l k tm σ=lS P lo Q n (cY P σ σ.length (ev tm) (.slice t x ox oy oz)) d all l k tm:=(Eq.refl _).trans rfl
theorem Zrl {t:TypeId} {x:Operand} {m:Nat}:mA P lo Q (n+1) ⟨d, .fieldAddr t x m,tt,ps,af,gg⟩ all l k tm σ=lS P lo Q n (cY P σ σ.length (ev tm) (.fieldAddr t x m)) d all l k tm:=(Eq.refl _).trans rfl
theorem ZE {t:TypeId} {x:Operand} {m:Nat}:mA P lo Q (n+1) ⟨d, .field t x m,tt,ps,af,gg⟩ all l k tm σ=lS P lo Q n (cY P σ σ.length (ev tm) (.field t x m)) d all l k tm:=(Eq.refl _).trans rfl
theorem Zrf {t:TypeId} {x:Operand} {y:Operand}:mA P lo Q (n+1) ⟨d, .indexAddr t x y,tt,ps,af,gg⟩ all l k tm σ=lS P lo Q n (cY P σ σ.length (ev tm) (.indexAddr t x y)) d all l k tm:=(Eq.refl _).trans rfl
theorem ZU {t:TypeId} {x:Operand} {y:Operand}:mA P lo Q (n+1) ⟨d, .index t x y,tt,ps,af,gg⟩ all l k tm σ=lS P lo Q n (cY P σ σ.length (ev tm) (.index t x y)) d all l k tm:=(Eq.refl _).trans rfl
theorem XX {t:TypeId} {x:Operand} {y:Operand} {b:Bool}:mA P lo Q (n+1) ⟨d, .lookup t x y b,tt,ps,af,gg⟩ all l k tm σ=lS P lo Q n (cY P σ σ.length (ev tm) (.lookup t x y b)) d all l k tm:=(Eq.refl _).trans rfl
theorem Zro {t:TypeId} {x:Operand} {y:Operand} {z:Operand}:mA P lo Q (n+1) ⟨d, .mapUpdate t x y z,tt,ps,af,gg⟩ all l k tm σ=lS P lo Q n (cY P σ σ.length (ev tm) (.mapUpdate t x y z)) d all l k tm:=(Eq.refl _).trans rfl
theorem XA {t:TypeId} {x:Operand} {y:Operand} {z:Operand}:mA P lo Q (n+1) ⟨d, .insert t x y z,tt,ps,af,gg⟩ all l k tm σ=lS P lo Q n (cY P σ σ.length (ev tm) (.insert t x y z)) d all l k tm:=(Eq.refl _).trans rfl
theorem Zn {t:TypeId} {x:Operand}:mA P lo Q (n+1) ⟨d, .range t x,tt,ps,af,gg⟩ all l k tm σ=lS P lo Q n (cY P σ σ.length (ev tm) (.range t x)) d all l k tm:=(Eq.refl _).trans rfl
theorem Ys4 {x:Operand}:mA P lo Q (n+1) ⟨d, .next x true,tt,ps,af,gg⟩ all l k tm σ=lS P lo Q n (cY P σ σ.length (ev tm) (.next x true)) d all l k tm:=(Eq.refl _).trans rfl
theorem Ymo {x:Operand}:mA P lo Q (n+1) ⟨d, .entry x,tt,ps,af,gg⟩ all l k tm σ=lS P lo Q n (cY P σ σ.length (ev tm) (.entry x)) d all l k tm:=(Eq.refl _).trans rfl
theorem Yje {x:Operand}:mA P lo Q (n+1) ⟨d, .next x false,tt,ps,af,gg⟩ all l k tm σ=nextQ (ev tm x) σ fun r σ'=>aK P lo Q (.ops all l :: k) .normal ⟨put tm d r,σ'⟩:=(Eq.refl _).trans rfl
theorem Zoc {x:Operand} {t:TypeId} {u:TypeId} {b:Bool}:mA P lo Q (n+1) ⟨d, .typeAssert x t u b,tt,ps,af,gg⟩ all l k tm σ=lS P lo Q n (cY P σ σ.length (ev tm) (.typeAssert x t u b)) d all l k tm:=(Eq.refl _).trans rfl
theorem Zyv {x:Operand} {m:Nat}:mA P lo Q (n+1) ⟨d, .extract x m,tt,ps,af,gg⟩ all l k tm σ=lS P lo Q n (cY P σ σ.length (ev tm) (.extract x m)) d all l k tm:=(Eq.refl _).trans rfl
theorem Zqs {t:TypeId} {x:Operand} {y:Operand}:mA P lo Q (n+1) ⟨d, .makeSlice t x y,tt,ps,af,gg⟩ all l k tm σ=lS P lo Q n (cY P σ σ.length (ev tm) (.makeSlice t x y)) d all l k tm:=(Eq.refl _).trans rfl
theorem Zyt {t:TypeId} {ox:Option Operand}:mA P lo Q (n+1) ⟨d, .makeMap t ox,tt,ps,af,gg⟩ all l k tm σ=lS P lo Q n (cY P σ σ.length (ev tm) (.makeMap t ox)) d all l k tm:=(Eq.refl _).trans rfl
end
attribute [go_sem] Zym Ypr Ys1 Xp Yqa Ylz Yvd Ylp Zom Yrj ZI Zt6 Ymh Yob Zzi Zja Ym8 Zrl ZE Zrf ZU XX Zro XA Zn Ys4 Yje Ymo Zoc Zyv Zqs Zyt
theorem Ynt {b:Bool}:Cx true (some (.bool b))=some b:=by cases b<;>rfl
theorem Ywg {b:Bool}:Cx false (some (.bool b))=some (!b):=by cases b<;>rfl
theorem Yoi {x y:ae}:oW (.bool true) x y=some x:=by cases x<;>cases y<;>rfl
theorem Z1 {x y:ae}:oW (.bool false) x y=some y:=by cases x<;>cases y<;>rfl
attribute [go_sem high] Ynt Ywg Yoi Z1
attribute [go_sem high] Yvj Ys9 Ywz Yr9 Wv YG SZ Yv Yv8 Yo3 Yk6
attribute [go_sem] TV Yz6 Ytj Yzf Yue Yo6 Z8 Yuc Ywa Yz1 Yp2 You Yuo Zui Yuw Zuv Zu3 Zyu XC Ww Zra XK Ws Wa Zsq WI Zyl Yun Jq Jj VX Zt3 Zz1 Zph Zsz Ykg ZW Ykf ZO Yl9 Yvh Z3 WW Yrq Ypp Yy8 Yxv XL Yrh YM Ze Yl5 Zs Ym9 Y2 RH Zy5 Xy Zpk WS Yjo Yle Zyw Ymj ZZ Ztw Zr Xs Zpu Ye Yjq Zuj Ztn Zuf Yjd YW Yjt Ztu Yjw Yrl Yrv W1 Yni Ypb Zzx Yqr Ylx Zv7 Zi Ypy Wm Zyk Yqi Yqv Yl6 Yns Yv1 Yw4 Yk4 Yov Xx Yk3 YP XD Zpe Zok WZ Yc ZC Yqz Yse Xk Zva Yju Yll XE Yl3 Zz6 Zpg Zu9 Zpq Zz0 Zyh Zoe Yl4 Yd ZR Ylr X2 Xe VL Yzw Yuk Yyc Yvo Yow Ypd Yja Ypi Ytb Yw6 Ywj Ysm Yx8 Yu0 Yy4 Yvm Yvt Yw9 Yx9 Yq8 Yoe Ymm Yjg Zyb Yrd Zzf Zug Ztp VS Ytv Yuh Yos N3 Z9 Yt9 Yxz Yx2 Yx6 Yxo Ysx Yq5 Yww Ys8 Ywc Yka Yxl V_ Ywf Ynp Y1 VT Ynn VI Zyx Yw5 TV Zc Yml Wh Ylj XG Wz Zyg Zz K2 Jo JF Yvs Ysn Yxn Ynl Yxk Yzq Yzs Yps Ypu Yph Yog Yop WU Zq Yko YH Zzw Ypg Ykw Ytm Yvk Ytx Ylh Ysl Yzh Ytp Yjl Yus Yv2 Ywv Yy3 Ywk Z6 Yt5 Ykz Yx7 Yqb Yyx Ypx Zq3 Yta Yrb VY Yy7 Yzr Yzp Yz0 VN LN Yn Ys5 Zu5 Y4 Ylg Zj Yj8 Yv9 Yz3 Zvc Yqc Zte Ysf Zv5 Yr4 Ylo Zv8 Ylv Ys7 Zzj W5 Ynu VK Zm Yv4 Yjr YX Yxu Xd WM W_ Yo9 Yr5 Yx3 Y_ VW Ytf Ytq Yy2 Yp4 Yx1 Yua Yug Yu9 Yw2 Ysb Yqh Yvq Yrf Ywr Yu7 Ywd VO Yzj Yth YD Yte Yvy Yo2 Yli Ypo Yp0 Yjj Yqg Yke Yku EZ QU Zzd Ym2 Yw WR Ymi Ypz Yo1 Wx ZQ YS Zyf W7 Ypf Yrc Ywm Yvu Yoh Yqs Ytt Ytg Yxp Yq2 Yrk Yu2 Yu1 WO Yup Ywt Yv0 Ysc Yt6 Ob E5 Yt7 Ytw Yzm Ynk Yzk PJ Rj Yz2 Yto V1 Yma VZ Yon Yxg Yxd Yuv Yrp Ywu Yx5 rh rf jb
attribute [go_sem] Option.bind_some Option.map_some Option.bind_none Option.map_none Option.join_some List.getD_cons_zero List.getD_cons_succ List.set_cons_zero List.set_cons_succ List.length_cons List.length_nil List.all_cons List.all_nil Bool.and_true Bool.true_and Bool.and_false Bool.false_and Bool.or_true Bool.or_false Bool.false_or Bool.true_or and_self if_true if_false Bool.false_eq_true Bool.true_eq_false true_implies false_implies and_true true_and and_false false_and forall_const reduceCtorEq List.nil_append List.replicate_zero List.replicate_succ List.cons_append Nat.lt_irrefl List.getElem?_cons_zero List.getElem?_cons_succ List.getElem?_nil Option.getD_some Option.getD_none List.drop_zero List.drop_succ_cons List.head?_cons ne_eq not_false_eq_true not_true_eq_false List.take_succ_cons List.take_zero List.map_cons List.map_nil List.mapM_cons List.mapM_nil Option.pure_def Option.bind_eq_bind Option.some.injEq exists_eq_left' exists_eq_left or_true true_or or_false false_or beq_self_eq_true decide_true decide_false Bool.not_true Bool.not_false Option.isSome_some Option.isSome_none Option.map_map Nat.zero_add Nat.add_zero
theorem Yqy {n:Nat}:ae.low n .gZ=True:=(Eq.refl _).trans rfl
attribute [go_sem] Yqy Yz7 Yuq Ysy Yr1 Yxc Ym YT Yks Ym5 Yws Yt8 Zk Ysi Yqx Yyz Yuy Yvr Yx4 Ymk Ypk Yyy VJ VP
attribute [go_sem] Ysq Z0 Yo0 Yxf Yzo Yxt VM Zh Yx0 Zyy WN Yr0 Yjs Zzy Ynz Wp WT Yoz Ysj Yp9 VU Yze Zy7 Yt2 Zpj V0 Yv7 ZK Y9
attribute [go_sem low] WL YA Ytr Ysp
@[go_sem] theorem Xa7:cH 0=6000000000000:=rfl
@[go_sem] theorem Yzy:cH 1=6000000000000:=rfl
@[go_sem] theorem Yzx:cH 2=6000000000000:=rfl
@[go_sem] theorem Xam:cH 4=6000000000000:=rfl
@[go_sem] theorem Xak:cH 8=6000000000000:=rfl
@[go_sem] theorem Yyp:cH 16=6000000000000:=rfl
@[go_sem] theorem Yyl:cH 24=6000000000000:=rfl
@[go_sem] theorem Yys:cH 32=6000000000000:=rfl
@[go_sem] theorem Yym:cH 40=1000000000:=rfl
@[go_sem] theorem Yyf:cH 48=1000000000:=rfl
@[go_sem] theorem Yyo:cH 56=1000000000:=rfl
@[go_sem] theorem Yyg:cH 64=1000000000:=rfl
@[go_sem] theorem Yyt:cH 72=1000000000:=rfl
@[go_sem] theorem Yye:cH 80=1000000000:=rfl
@[go_sem] theorem Yyr:cH 88=1000000000:=rfl
@[go_sem] theorem Yyu:cH 96=1000000000:=rfl
@[go_sem] theorem Yvl:cH 104=1000000000:=rfl
@[go_sem] theorem Yu8:cH 112=1000000000:=rfl
@[go_sem] theorem Yy6:cH 120=1000000000:=rfl
@[go_sem] theorem Yvb:cH 128=1000000000:=rfl
@[go_sem] theorem Yxi:cH 136=1000000000:=rfl
@[go_sem] theorem Yvp:cH 144=1000000000:=rfl
@[go_sem] theorem Yya:cH 152=1000000000:=rfl
@[go_sem] theorem Yt1:cH 160=1000000000:=rfl
@[go_sem] theorem Ytc:cH 168=1000000000:=rfl
@[go_sem] theorem Ytd:cH 176=1000000000:=rfl
@[go_sem] theorem Yxh:cH 184=1000000000:=rfl
@[go_sem] theorem Yvv:cH 192=1000000000:=rfl
@[go_sem] theorem Ywp:cH 200=1000000000:=rfl
@[go_sem] theorem Ywe:cH 208=1000000000:=rfl
@[go_sem] theorem Yux:cH 216=1000000000:=rfl
@[go_sem] theorem Yuz:cH 224=1000000000:=rfl
@[go_sem] theorem Ysv:cH 232=1000000000:=rfl
@[go_sem] theorem Yv3:cH 240=1000000000:=rfl
@[go_sem] theorem Yyb:cH 248=1000000000:=rfl
@[go_sem] theorem Ysr:cH 256=1000000000:=rfl
@[go_sem] theorem Ysu:cH 264=1000000000:=rfl
@[go_sem] theorem Yva:cH 272=1000000000:=rfl
@[go_sem] theorem Yxe:cH 280=1000000000:=rfl
@[go_sem] theorem Yxq:cH 288=1000000000:=rfl
@[go_sem] theorem Yul:cH 296=1000000000:=rfl
@[go_sem] theorem Ywi:cH 304=1000000000:=rfl
@[go_sem] theorem Yss:cH 312=1000000000:=rfl
@[go_sem] theorem Ywy:cH 320=1000000000:=rfl
@[go_sem] theorem Yvz:cH 328=1000000000:=rfl
@[go_sem] theorem Yvg:cH 336=1000000000:=rfl
@[go_sem] theorem Ysk:cH 344=1000000000:=rfl
@[go_sem] theorem Yvw:cH 352=1000000000:=rfl
@[go_sem] theorem Yxm:cH 360=1000000000:=rfl
@[go_sem] theorem Yur:cH 368=1000000000:=rfl
@[go_sem] theorem Yve:cH 376=1000000000:=rfl
@[go_sem] theorem Yxb:cH 384=1000000000:=rfl
@[go_sem] theorem Yut:cH 392=1000000000:=rfl
@[go_sem] theorem Ytl:cH 400=1000000000:=rfl
end Go.c8
