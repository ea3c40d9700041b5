/- Part 19 of my own framework and of the walks of functions: AbsT. -/
import Derived.Test.YtfjbdamcmiglgaaGreatOwn18
set_option linter.unusedVariables false
set_option linter.unusedSectionVars false
set_option linter.unusedSimpArgs false
namespace Go.dm
open Go
section
variable {P:Program} {lo:Ctx} {Q:ct→St→Prop} {n:Nat} {k:List KI} {tm:List ah} {σ:ai} {all:Array Oper} {l:List Oper}
theorem Yk4 {ι:Type} {I : ι→List ah} {S : ι→ai} {μ : ι→Nat} {x : ι} {s:St}:tO P lo Q k I S μ x .normal s = ∃ y,vG (I y) (S y) s∧μ y < μ x:=(Eq.refl _).trans rfl
theorem Yro {ι:Type} {I : ι→List ah} {S : ι→ai} {μ : ι→Nat} {x : ι} {s:St} {i:Nat}:tO P lo Q k I S μ x (.exit i) s=aG P lo Q k (.exit i) s:=(Eq.refl _).trans rfl
theorem Ysc {ι:Type} {I : ι→List ah} {S : ι→ai} {μ : ι→Nat} {x : ι} {s:St} {i:Nat}:tO P lo Q k I S μ x (.goto i) s=aG P lo Q k (.goto i) s:=(Eq.refl _).trans rfl
theorem Yxz {ι:Type} {I : ι→List ah} {S : ι→ai} {μ : ι→Nat} {x : ι} {s:St}:tO P lo Q k I S μ x .ret s=aG P lo Q k .ret s:=(Eq.refl _).trans rfl
theorem Yer {rs:List ResultVar} {K:ah→ai→Prop} {s:St}:rq P rs K .normal s = ∃ r,gp P s rs=some r∧K r s.σ:=(Eq.refl _).trans rfl
theorem Yy9 {rs:List ResultVar} {K:ah→ai→Prop} {s:St}:rq P rs K .ret s = ∃ r,gp P s rs=some r∧K r s.σ:=(Eq.refl _).trans rfl
theorem Ym5 {ι:Type} {I : ι→List ah} {S : ι→ai} {μ : ι→Nat} {x : ι} {s:St} {u:Value}:tO P lo Q k I S μ x (.panic u) s=aG P lo Q k (.panic u) s:=(Eq.refl _).trans rfl
theorem Yx5 {r r0:ah}:F3 r r0 σ=pT (fun _=>true) σ r r0:=(Eq.refl _).trans rfl
theorem Ysv {r:ResultVar} {tm:List ah}:gp P ⟨tm,σ⟩ [r]=rm tm σ P r:=by
 simp only [gp,nC,List.mapM_nil];cases rm tm σ P r<;>rfl
theorem Ym6 {tm:List ah}:gp P ⟨tm,σ⟩ []=some (.dT []):=(Eq.refl _).trans rfl
theorem Yut {r r':ResultVar} {rs:List ResultVar} {tm:List ah}:gp P ⟨tm,σ⟩ (r :: r' :: rs)=((r :: r' :: rs).mapM (rm tm σ P)).map .dT:=by
 simp only [gp,nC];cases rm tm σ P r with
 | none=>rfl
 | some a=>cases rm tm σ P r' with
  | none=>rfl
  | some b=>cases List.mapM (rm tm σ P) rs<;>rfl
theorem Yvv {t:Tmp} {tm:List ah}:rm tm σ P (.tmp t)=some (tm.getD t .undef):=(Eq.refl _).trans rfl
theorem Ypg {a:Tmp} {t:TypeId} {tm:List ah}:rm tm σ P (.cell a t)=(aF P t).bind fun l=>jv σ l (tm.getD a .undef):=(Eq.refl _).trans rfl
theorem Yvt {j6:List ah} {σ':ai}:vG j6 σ' ⟨tm,σ⟩=(mr j6 tm∧iP σ' σ∧bF σ'.length j6∧bD σ'.length σ'):=(Eq.refl _).trans rfl
theorem Ylt:mr [] []=True:=(Eq.refl _).trans rfl
theorem Ycv {b:ah} {cD bs:List ah}:mr (.undef :: cD) (b :: bs)=mr cD bs:=by simp [mr]
theorem Ygk {a:ah} {cD bs:List ah}:mr (a :: cD) (a :: bs)=mr cD bs:=by simp [mr]
theorem Ygw {a b:ah} {cD bs:List ah}:mr (a :: cD) (b :: bs)=((a=b∨a = .undef)∧mr cD bs):=(Eq.refl _).trans rfl
theorem Yoz:iP [] σ=True:=(Eq.refl _).trans rfl
theorem Yhm {a b:Option bO} {cD bs:ai}:iP (a :: cD) (b :: bs)=((a=b∨a=none)∧iP cD bs):=(Eq.refl _).trans rfl
theorem Yf8 {b:Option bO} {cD bs:ai}:iP (none :: cD) (b :: bs)=iP cD bs:=by simp [iP]
theorem UT {a:Option bO} {cD bs:ai}:iP (a :: cD) (a :: bs)=iP cD bs:=by simp [iP]
theorem Gt {n:Nat}:bD n []=True:=(Eq.refl _).trans rfl
theorem Ug {n:Nat}:bD n (none :: σ)=bD n σ:=by simp [bD,jK]
theorem Ycr {n:Nat} {b:bO}:bD n (some b :: σ)=(b.low n∧bD n σ):=(Eq.refl _).trans rfl
theorem Yo8 {n:Nat}:bF n []=True:=(Eq.refl _).trans rfl
theorem Ygj {n:Nat} {a:ah} {cD:List ah}:bF n (a :: cD)=(a.low n∧bF n cD):=(Eq.refl _).trans rfl
theorem Yh9 {n:Nat}:ah.low n .undef=True:=(Eq.refl _).trans rfl
theorem Yov {n:Nat} {b:Bool}:ah.low n (.bool b)=True:=(Eq.refl _).trans rfl
theorem Yr1 {n:Nat} {k:IntKind} {i:Int}:ah.low n (.int k i)=True:=(Eq.refl _).trans rfl
theorem Yu4 {n:Nat} {s:ByteArray}:ah.low n (.str s)=True:=(Eq.refl _).trans rfl
theorem Yde {n:Nat}:ah.low n .bY=True:=(Eq.refl _).trans rfl
theorem Ypb {n:Nat}:ah.low n .aW=True:=(Eq.refl _).trans rfl
theorem Yk3 {n:Nat}:ah.low n .aA=True:=(Eq.refl _).trans rfl
theorem Ydn {n:Nat}:ah.low n .cM=True:=(Eq.refl _).trans rfl
theorem Yds {n:Nat}:ah.low n .gk=True:=(Eq.refl _).trans rfl
theorem Yrx {n:Nat} {v:Value}:ah.low n (.oD v)=True:=(Eq.refl _).trans rfl
theorem Yu1 {n b o:Nat}:ah.low n (.ptr b o)=(b<n):=(Eq.refl _).trans rfl
theorem YH {n b i f:Nat}:ah.low n (.rp b i f)=(b<n):=(Eq.refl _).trans rfl
theorem YN {n b o m s:Nat}:ah.low n (.os b o m s)=(b<n):=(Eq.refl _).trans rfl
theorem Yx1 {n b o m c s:Nat}:ah.low n (.oc b o m c s)=(b<n):=(Eq.refl _).trans rfl
theorem Yvw {n b:Nat}:ah.low n (.lN b)=(b<n):=(Eq.refl _).trans rfl
theorem Yr9 {n b:Nat}:ah.low n (.map b)=(b<n):=(Eq.refl _).trans rfl
theorem Yyu {n b:Nat}:ah.low n (.it b)=(b<n):=(Eq.refl _).trans rfl
theorem Yw4 {n:Nat} {cs:List ah}:ah.low n (.pp cs)=bF n cs:=(Eq.refl _).trans rfl
theorem Ywx {n s:Nat} {cs:List ah}:ah.low n (.ps s cs)=bF n cs:=(Eq.refl _).trans rfl
theorem Yra {n:Nat} {cs:List ah}:ah.low n (.agg cs)=bF n cs:=(Eq.refl _).trans rfl
theorem Yum {n:Nat} {cs:List ah}:ah.low n (.dT cs)=bF n cs:=(Eq.refl _).trans rfl
theorem Ywf {n:Nat} {f:FuncId} {a c:List ah}:ah.low n (.fn f a c)=(bF n a∧bF n c):=(Eq.refl _).trans rfl
theorem Yx {n:Nat} {a c:List ah}:ah.low n (.pm a c)=(bF n a∧bF n c):=(Eq.refl _).trans rfl
theorem Yg1 {n:Nat} {t:TypeId} {v:ah}:ah.low n (.iface t v)=v.low n:=(Eq.refl _).trans rfl
theorem Yvx {n:Nat} {cs:List ah}:bO.low n (.var cs)=bF n cs:=(Eq.refl _).trans rfl
theorem YU {n fz:Nat} {cs:List ah}:bO.low n (.row cs fz)=bF n cs:=(Eq.refl _).trans rfl
theorem Yzh {n:Nat} {a c:List ah} {f:Bool}:bO.low n (.map a c f)=(bF n a∧bF n c):=(Eq.refl _).trans rfl
theorem Yzs {n:Nat} {ks vs:List ah} {s:List Nat}:bO.low n (.lL ks vs s)=(bF n ks∧bF n vs):=(Eq.refl _).trans rfl
theorem Yri {n pos:Nat} {s:ByteArray}:bO.low n (.iter s pos)=True:=(Eq.refl _).trans rfl
theorem Rb {F:Nat→Bool}:lj F σ [] []=True:=by simp [lj]
theorem Gy {F:Nat→Bool} {t a:ah} {ts cD:List ah}:lj F σ (t :: ts) (a :: cD)=(pT F σ t a∧lj F σ ts cD):=by simp [lj]
theorem Ypu {F:Nat→Bool} {ts:List ah}:lj F σ ts ts=True:=eq_true (cx F σ ts)
theorem Yuj {F:Nat→Bool} {t:ah}:pT F σ t t=True:=eq_true (xa F σ t)
theorem Yxc {F:Nat→Bool} {cs nL:List ah}:pT F σ (.agg nL) (.agg cs)=lj F σ nL cs:=by simp [pT]
theorem Yxf {F:Nat→Bool} {cs nL:List ah}:pT F σ (.dT nL) (.dT cs)=lj F σ nL cs:=by simp [pT]
theorem Zq {F:Nat→Bool} {cs nL:List ah}:pT F σ (.pp nL) (.pp cs)=lj F σ nL cs:=by simp [pT]
theorem Ysj {F:Nat→Bool} {s:Nat} {ts:List ah}:pT F σ (.ps s ts) .aW=(ts=[]):=by simp [pT]
theorem Zo {F:Nat→Bool} {s s':Nat} {ts es:List ah}:pT F σ (.ps s ts) (.ps s' es)=(s'=s∧lj F σ ts es):=by simp [pT]
def zQ (F:Nat→Bool) (σ:ai) (ts:List ah) (off n:Nat):Option bO→Prop
 | some (.row es _)=>off+n≤es.length∧lj F σ ts ((es.drop off).take n)
 | _=>False
theorem Sz {F:Nat→Bool} {s s' b off n:Nat} {ts:List ah}:pT F σ (.ps s ts) (.os b off n s')=(s'=s∧F b=true∧zQ F σ ts off n (bP σ b)):=by
 simp only [pT,zQ];cases bP σ b with | none=>rfl | some x=>cases x<;>rfl
theorem TR {F:Nat→Bool} {ts es:List ah} {off n fz:Nat}:zQ F σ ts off n (some (.row es fz))=(off+n≤es.length∧lj F σ ts ((es.drop off).take n)):=(Eq.refl _).trans rfl
theorem ZC {F:Nat→Bool} {a b c d:List ah}:pT F σ (.pm a b) (.pm c d)=(lj F σ a c∧lj F σ b d):=by simp [pT]
def zP (F:Nat→Bool) (σ:ai) (a b:List ah):Option bO→Prop
 | some (.map ks vs _)=>lj F σ a ks∧lj F σ b vs
 | _=>False
theorem Yxs {F:Nat→Bool} {a b:List ah} {m:Nat}:pT F σ (.pm a b) (.map m)=(F m=true∧zP F σ a b (bP σ m)):=by
 simp only [pT,zP];cases bP σ m with | none=>rfl | some x=>cases x<;>rfl
theorem Yaz {F:Nat→Bool} {a b ks vs:List ah} {f:Bool}:zP F σ a b (some (.map ks vs f))=(lj F σ a ks∧lj F σ b vs):=(Eq.refl _).trans rfl
theorem Ykp {F:Nat→Bool} {t t':TypeId} {a b:ah}:pT F σ (.iface t' a) (.iface t b)=(t'=t∧pT F σ a b):=by simp [pT]
theorem Z3 {F:Nat→Bool} {f f':FuncId} {a b c d:List ah}:pT F σ (.fn f' a b) (.fn f c d)=(f'=f∧lj F σ a c∧lj F σ b d):=by simp [pT]
theorem Yvs {F:Nat→Bool} {b:Bool} {a:ah}:pT F σ (.bool b) a=(a = .bool b):=by simp [pT]
theorem Yzc {F:Nat→Bool} {k:IntKind} {i:Int} {a:ah}:pT F σ (.int k i) a=(a = .int k i):=by simp [pT]
theorem Yxp {F:Nat→Bool} {s:ByteArray} {a:ah}:pT F σ (.str s) a=(a = .str s):=by simp [pT]
theorem Y0 {F:Nat→Bool} {i:Nat}:gD F i []=[]:=(Eq.refl _).trans rfl
theorem Yrw {F:Nat→Bool} {i:Nat} {b:Option bO} {σ:ai}:gD F i (b :: σ)=(if F i=true then ke b else b) :: gD F (i+1) σ:=(Eq.refl _).trans rfl
theorem Yzq {es:List ah} {fz:Nat}:ke (some (.row es fz))=some (.row es (max fz es.length)):=(Eq.refl _).trans rfl
theorem YF {ks vs:List ah} {f:Bool}:ke (some (.map ks vs f))=some (.map ks vs true):=(Eq.refl _).trans rfl
theorem rv {b:Nat}:among [] b=false:=(Eq.refl _).trans rfl
theorem rr {a b:Nat} {bs:List Nat}:among (a :: bs) b=(a==b||among bs b):=by simp [among]
end
section
variable {P:Program} {lo:Ctx} {Q:ct→St→Prop} {n:Nat} {k:List KI} {tm:List ah} {σ:ai} {all:Array Oper} {l:List Oper} {d:Option Tmp} {tt:TypeId} {ps:String} {af:Array Edge} {gg:Option (Nat×Bool)}
theorem Ybw {bi:Builtin} {args:Array Operand} {ts:Array TypeId}:nc P lo Q (n+1) ⟨d, .call ⟨.builtin bi,args,ts⟩,tt,ps,af,gg⟩ all l k tm σ=mn P lo Q n (dt P σ σ.length (ev tm) (.call ⟨.builtin bi,args,ts⟩)) d all l k tm:=(Eq.refl _).trans rfl
theorem Yse {f:FuncId} {a c:Array Operand}:nc P lo Q (n+1) ⟨d, .makeFunc (.func f) a c,tt,ps,af,gg⟩ all l k tm σ=mn P lo Q n (dt P σ σ.length (ev tm) (.makeFunc (.func f) a c)) d all l k tm:=(Eq.refl _).trans rfl
theorem Yrc {x:Operand}:nc P lo Q (n+1) ⟨d, .move x,tt,ps,af,gg⟩ all l k tm σ=mn P lo Q n (dt P σ σ.length (ev tm) (.move x)) d all l k tm:=(Eq.refl _).trans rfl
theorem Yjh {x:Operand}:nc P lo Q (n+1) ⟨d, .assign x,tt,ps,af,gg⟩ all l k tm σ=mn P lo Q n (dt P σ σ.length (ev tm) (.assign x)) d all l k tm:=(Eq.refl _).trans rfl
theorem Ysu {x:Operand} {y:Operand} {z:Operand}:nc P lo Q (n+1) ⟨d, .pick x y z,tt,ps,af,gg⟩ all l k tm σ=mn P lo Q n (dt P σ σ.length (ev tm) (.pick x y z)) d all l k tm:=(Eq.refl _).trans rfl
theorem Yl5 {t:TypeId}:nc P lo Q (n+1) ⟨d, .alloc t,tt,ps,af,gg⟩ all l k tm σ=mn P lo Q n (dt P σ σ.length (ev tm) (.alloc t)) d all l k tm:=(Eq.refl _).trans rfl
theorem Ywh {t:TypeId} {x:Operand}:nc P lo Q (n+1) ⟨d, .box t x,tt,ps,af,gg⟩ all l k tm σ=mn P lo Q n (dt P σ σ.length (ev tm) (.box t x)) d all l k tm:=(Eq.refl _).trans rfl
theorem Yln {t:TypeId} {pp:Array (Nat×Operand)}:nc P lo Q (n+1) ⟨d, .build t pp,tt,ps,af,gg⟩ all l k tm σ=mn P lo Q n (dt P σ σ.length (ev tm) (.build t pp)) d all l k tm:=(Eq.refl _).trans rfl
theorem Zr4 {t:TypeId} {m:Nat} {pp:Array (Nat×Operand)}:nc P lo Q (n+1) ⟨d, .buildSlice t m pp,tt,ps,af,gg⟩ all l k tm σ=mn P lo Q n (dt P σ σ.length (ev tm) (.buildSlice t m pp)) d all l k tm:=(Eq.refl _).trans rfl
theorem Ytm {t:TypeId} {x:Operand}:nc P lo Q (n+1) ⟨d, .load t x,tt,ps,af,gg⟩ all l k tm σ=mn P lo Q n (dt P σ σ.length (ev tm) (.load t x)) d all l k tm:=(Eq.refl _).trans rfl
theorem Ynm {t:TypeId} {x:Operand} {y:Operand}:nc P lo Q (n+1) ⟨d, .store t x y,tt,ps,af,gg⟩ all l k tm σ=mn P lo Q n (dt P σ σ.length (ev tm) (.store t x y)) d all l k tm:=(Eq.refl _).trans rfl
theorem Zxo {x:Operand}:nc P lo Q (n+1) ⟨d, .nilCheck x,tt,ps,af,gg⟩ all l k tm σ=mn P lo Q n (dt P σ σ.length (ev tm) (.nilCheck x)) d all l k tm:=(Eq.refl _).trans rfl
theorem Yoh {op:BinOp} {t:TypeId} {x:Operand} {y:Operand} {u:TypeId}:nc P lo Q (n+1) ⟨d, .binOp op t x y u,tt,ps,af,gg⟩ all l k tm σ=mn P lo Q n (dt P σ σ.length (ev tm) (.binOp op t x y u)) d all l k tm:=(Eq.refl _).trans rfl
theorem Yrj {uo:UnOp} {t:TypeId} {x:Operand}:nc P lo Q (n+1) ⟨d, .unOp uo t x,tt,ps,af,gg⟩ all l k tm σ=mn P lo Q n (dt P σ σ.length (ev tm) (.unOp uo t x)) d all l k tm:=(Eq.refl _).trans rfl
theorem Ycq {t:TypeId} {u:TypeId} {x:Operand}:nc P lo Q (n+1) ⟨d, .convert t u x,tt,ps,af,gg⟩ all l k tm σ=mn P lo Q n (dt P σ σ.length (ev tm) (.convert t u x)) d all l k tm:=(Eq.refl _).trans rfl
theorem Zka {t:TypeId} {x:Operand}:nc P lo Q (n+1) ⟨d, .makeInterface t x,tt,ps,af,gg⟩ all l k tm σ=mn P lo Q n (dt P σ σ.length (ev tm) (.makeInterface t x)) d all l k tm:=(Eq.refl _).trans rfl
theorem Ym4 {t:TypeId} {x:Operand} {ox:Option Operand} {oy:Option Operand} {oz:Option Operand}:nc P lo Q (n+1) ⟨d, .slice t x ox oy oz,tt,ps,af,gg⟩ all l k tm σ=mn P lo Q n (dt P σ σ.length (ev tm) (.slice t x ox oy oz)) d all l k tm:=(Eq.refl _).trans rfl
theorem Zun {t:TypeId} {x:Operand} {m:Nat}:nc P lo Q (n+1) ⟨d, .fieldAddr t x m,tt,ps,af,gg⟩ all l k tm σ=mn P lo Q n (dt P σ σ.length (ev tm) (.fieldAddr t x m)) d all l k tm:=(Eq.refl _).trans rfl
theorem Ykq {t:TypeId} {x:Operand} {m:Nat}:nc P lo Q (n+1) ⟨d, .field t x m,tt,ps,af,gg⟩ all l k tm σ=mn P lo Q n (dt P σ σ.length (ev tm) (.field t x m)) d all l k tm:=(Eq.refl _).trans rfl
theorem Ztd {t:TypeId} {x:Operand} {y:Operand}:nc P lo Q (n+1) ⟨d, .indexAddr t x y,tt,ps,af,gg⟩ all l k tm σ=mn P lo Q n (dt P σ σ.length (ev tm) (.indexAddr t x y)) d all l k tm:=(Eq.refl _).trans rfl
theorem Ynh {t:TypeId} {x:Operand} {y:Operand}:nc P lo Q (n+1) ⟨d, .index t x y,tt,ps,af,gg⟩ all l k tm σ=mn P lo Q n (dt P σ σ.length (ev tm) (.index t x y)) d all l k tm:=(Eq.refl _).trans rfl
theorem Ye1 {t:TypeId} {x:Operand} {y:Operand} {b:Bool}:nc P lo Q (n+1) ⟨d, .lookup t x y b,tt,ps,af,gg⟩ all l k tm σ=mn P lo Q n (dt P σ σ.length (ev tm) (.lookup t x y b)) d all l k tm:=(Eq.refl _).trans rfl
theorem Zrw {t:TypeId} {x:Operand} {y:Operand} {z:Operand}:nc P lo Q (n+1) ⟨d, .mapUpdate t x y z,tt,ps,af,gg⟩ all l k tm σ=mn P lo Q n (dt P σ σ.length (ev tm) (.mapUpdate t x y z)) d all l k tm:=(Eq.refl _).trans rfl
theorem Ydx {t:TypeId} {x:Operand} {y:Operand} {z:Operand}:nc P lo Q (n+1) ⟨d, .insert t x y z,tt,ps,af,gg⟩ all l k tm σ=mn P lo Q n (dt P σ σ.length (ev tm) (.insert t x y z)) d all l k tm:=(Eq.refl _).trans rfl
theorem Yng {t:TypeId} {x:Operand}:nc P lo Q (n+1) ⟨d, .range t x,tt,ps,af,gg⟩ all l k tm σ=mn P lo Q n (dt P σ σ.length (ev tm) (.range t x)) d all l k tm:=(Eq.refl _).trans rfl
theorem Yt7 {x:Operand}:nc P lo Q (n+1) ⟨d, .next x true,tt,ps,af,gg⟩ all l k tm σ=mn P lo Q n (dt P σ σ.length (ev tm) (.next x true)) d all l k tm:=(Eq.refl _).trans rfl
theorem Ylc {x:Operand}:nc P lo Q (n+1) ⟨d, .entry x,tt,ps,af,gg⟩ all l k tm σ=mn P lo Q n (dt P σ σ.length (ev tm) (.entry x)) d all l k tm:=(Eq.refl _).trans rfl
theorem Ynq {x:Operand}:nc P lo Q (n+1) ⟨d, .next x false,tt,ps,af,gg⟩ all l k tm σ=nextQ (ev tm x) σ fun r σ'=>aG P lo Q (.ops all l :: k) .normal ⟨put tm d r,σ'⟩:=(Eq.refl _).trans rfl
theorem Zpm {x:Operand} {t:TypeId} {u:TypeId} {b:Bool}:nc P lo Q (n+1) ⟨d, .typeAssert x t u b,tt,ps,af,gg⟩ all l k tm σ=mn P lo Q n (dt P σ σ.length (ev tm) (.typeAssert x t u b)) d all l k tm:=(Eq.refl _).trans rfl
theorem Yb0 {x:Operand} {m:Nat}:nc P lo Q (n+1) ⟨d, .extract x m,tt,ps,af,gg⟩ all l k tm σ=mn P lo Q n (dt P σ σ.length (ev tm) (.extract x m)) d all l k tm:=(Eq.refl _).trans rfl
theorem Zrt {t:TypeId} {x:Operand} {y:Operand}:nc P lo Q (n+1) ⟨d, .makeSlice t x y,tt,ps,af,gg⟩ all l k tm σ=mn P lo Q n (dt P σ σ.length (ev tm) (.makeSlice t x y)) d all l k tm:=(Eq.refl _).trans rfl
theorem Yda {t:TypeId} {ox:Option Operand}:nc P lo Q (n+1) ⟨d, .makeMap t ox,tt,ps,af,gg⟩ all l k tm σ=mn P lo Q n (dt P σ σ.length (ev tm) (.makeMap t ox)) d all l k tm:=(Eq.refl _).trans rfl
end
attribute [go_sem] Ybw Yse Yrc Yjh Ysu Yl5 Ywh Yln Zr4 Ytm Ynm Zxo Yoh Yrj Ycq Zka Ym4 Zun Ykq Ztd Ynh Ye1 Zrw Ydx Yng Yt7 Ynq Ylc Zpm Yb0 Zrt Yda
theorem Ytl {b:Bool}:DK true (some (.bool b))=some b:=by cases b<;>rfl
theorem Yw9 {b:Bool}:DK false (some (.bool b))=some (!b):=by cases b<;>rfl
theorem Yvq {x y:ah}:pN (.bool true) x y=some x:=by cases x<;>cases y<;>rfl
theorem Ymi {x y:ah}:pN (.bool false) x y=some y:=by cases x<;>cases y<;>rfl
attribute [go_sem high] Ytl Yw9 Yvq Ymi
attribute [go_sem high] YW Ysg Yy1 Ytd Ycv Ygk UT Yf8 YY Yuj Ypu
attribute [go_sem] QA ZJ Yxv Zw Yyc Ysa Ypo Zc Yx0 ZF Yu3 Ytg Yw5 Zwk Y4 Zv8 Zx8 Ycc Yir Yc1 Zts Yi5 Ybv Ybr Zrg Ygp Yc5 Yyb KR KP ZH Zwh Ybe Zsm Zx4 Ykw Ypn Ypi Yp9 Ymg Ywq Yp1 Yg7 Yvo Yt6 Yz4 Yz0 Yfh Yvc Yhi Yla Yki Yl4 Yo5 Yh3 Vk Yc9 Yfb Zs7 Yib Yos Ykt Yd2 Yl7 Yle Zwl Yku Ygy Ztn Yga Yp8 Zw0 Zvj Zvw Yno Yj4 Ypv Zw8 Ymr Yui Ysm Yej Yv0 Yr8 Yd5 Yuo Ylx Zv3 Yml Yst Yd4 Ybm Yux Yvf Ymd Yrt YR Yzj Yoc Yv1 Yjx Yn4 Yiy Ygb Zpg Zpi Yeh Yik Yp4 Yti Yve Yfd Zxu Yom Yog Yff Ym3 Ycy Zum Zv4 Zuu Ybd Z7 Zqe Ymh Yfa Ylw Yl1 Yii Yez ZW Zy Yzn Zd YB Yun Yrr Ynx Yu0 Yz5 Yxa YV Yxg Zf YM Ywj YG Ywg YP Yw0 Yu2 Yty Ylm Ypl Ycn Yuv Z6 Zws Zwt ZZ YC Yyw Yvd NH Ypc Yzu Yzo Yxt Y6 Yxe Yzf Yus Yw2 Ys1 Yx6 Yo1 Yxr Ycx Yxw Yt2 Yil Z4 Yt8 ZA Ydh Yy QA Yly Ylz Ych Ykr Yeb Yc2 Yd7 Yox Ng K2 Lr Yz9 Y2 Yz6 Yqu Zh Zx ZU Yrq Ysd Yqs Yr4 Yua Yh4 Ynd Ypm Yf9 Ybn Yuk Ynn Ywp Yx4 Yx2 Yn2 Yxx Zn Yx9 Ykh Yv Y8 Ze Ywi YS Yl3 Yz3 Ym8 Yyg Ysw Zl Yta Zst Y7 Ytx ZQ Yzv Z2 ZK ZE ZM N4 Yhk Ys6 Zxa Yo7 Ym2 Ylk Ymy Yyj ZV Zuy Yr7 Zv9 Yvj Zx7 Yud Yp2 Zv0 Yor Yvk Yc7 Yjz Yt3 ZB Ynp Yzp Ylg Ygf Ywa Yf0 Yis Yk4 Yro Ysc Yxz Ym5 Zj Ywe Yyy Yxm Yqy Yy6 Yzw Yy8 Ywn Yxn Ysf Ysl Yx8 Yv6 Yw8 Yw YE Zt ZP Y_ Yer Yy9 Yx5 Ysv Ym6 Yut Yvv Ypg Yvt Ylt Yoz Gt Ug Ycr Yo8 Ygj Yh9 Yov Yr1 Yu4 Yde Ypb Yk3 Ydn Yds Yrx Yu1 YH YN Yvw Yr9 Yyu Yw4 Ywx Yra Yum Ywf Yx Yg1 Yvx YU Yzh Yri Yzs Rb Gy Yxc Yxf Zq Ysj Zo Sz TR ZC Yxs Yaz Ykp Z3 Yvs Yzc Yxp Y0 Yrw Yzq YF rv rr je
attribute [go_sem] Option.bind_some Option.map_some Option.bind_none Option.map_none Option.join_some List.getD_cons_zero List.getD_cons_succ List.set_cons_zero List.set_cons_succ List.length_cons List.length_nil List.all_cons List.all_nil Bool.and_true Bool.true_and Bool.and_false Bool.false_and Bool.or_true Bool.or_false Bool.false_or Bool.true_or and_self if_true if_false Bool.false_eq_true Bool.true_eq_false true_implies false_implies and_true true_and and_false false_and forall_const reduceCtorEq List.nil_append List.replicate_zero List.replicate_succ List.cons_append Nat.lt_irrefl List.getElem?_cons_zero List.getElem?_cons_succ List.getElem?_nil Option.getD_some Option.getD_none List.drop_zero List.drop_succ_cons List.head?_cons ne_eq not_false_eq_true not_true_eq_false List.take_succ_cons List.take_zero List.map_cons List.map_nil List.mapM_cons List.mapM_nil Option.pure_def Option.bind_eq_bind Option.some.injEq exists_eq_left' exists_eq_left or_true true_or or_false false_or beq_self_eq_true decide_true decide_false Bool.not_true Bool.not_false Option.isSome_some Option.isSome_none Option.map_map Nat.zero_add Nat.add_zero
theorem Yqw {n:Nat}:ah.low n .iH=True:=(Eq.refl _).trans rfl
attribute [go_sem] Yqw Zp Yx7 Yzt Ysi Y3 Yk7 Yih Yna Yp5 Yy3 Yw1 Ynz Ytq Ytb Zs YI Yzi Yz2 Yks Yuw Zu Zi ZL
attribute [go_sem] Yx1 Yol Yuf YT ZG Ywl ZO Ylq Yws Yb1 Yhu Ytk Yld Yca Yts Ycd Yee Yrz Ysr Yue ZY ZN Ydm Yyn Zs6 Zv Zb Ym1 Yoq
attribute [go_sem low] Ygw Yhm Yxo Za
@[go_sem] theorem Xci:cV 0=6000000000000:=rfl
@[go_sem] theorem Xcz:cV 1=6000000000000:=rfl
@[go_sem] theorem Xdm:cV 2=6000000000000:=rfl
@[go_sem] theorem Xdq:cV 4=6000000000000:=rfl
@[go_sem] theorem Xcm:cV 8=6000000000000:=rfl
@[go_sem] theorem Xc0:cV 16=6000000000000:=rfl
@[go_sem] theorem Xca:cV 24=6000000000000:=rfl
@[go_sem] theorem Xbx:cV 32=6000000000000:=rfl
@[go_sem] theorem Xc5:cV 40=1000000000:=rfl
@[go_sem] theorem Xbv:cV 48=1000000000:=rfl
@[go_sem] theorem Xbz:cV 56=1000000000:=rfl
@[go_sem] theorem Xc3:cV 64=1000000000:=rfl
@[go_sem] theorem Xc6:cV 72=1000000000:=rfl
@[go_sem] theorem Xbt:cV 80=1000000000:=rfl
@[go_sem] theorem Xc4:cV 88=1000000000:=rfl
@[go_sem] theorem Xc1:cV 96=1000000000:=rfl
@[go_sem] theorem Yyf:cV 104=1000000000:=rfl
@[go_sem] theorem Yy4:cV 112=1000000000:=rfl
@[go_sem] theorem Yza:cV 120=1000000000:=rfl
@[go_sem] theorem Yw3:cV 128=1000000000:=rfl
@[go_sem] theorem Yy0:cV 136=1000000000:=rfl
@[go_sem] theorem Yzm:cV 144=1000000000:=rfl
@[go_sem] theorem Yz7:cV 152=1000000000:=rfl
@[go_sem] theorem Yzy:cV 160=1000000000:=rfl
@[go_sem] theorem Xbb:cV 168=1000000000:=rfl
@[go_sem] theorem Xb8:cV 176=1000000000:=rfl
@[go_sem] theorem Xbj:cV 184=1000000000:=rfl
@[go_sem] theorem Yxh:cV 192=1000000000:=rfl
@[go_sem] theorem Xbl:cV 200=1000000000:=rfl
@[go_sem] theorem Yzb:cV 208=1000000000:=rfl
@[go_sem] theorem Yy7:cV 216=1000000000:=rfl
@[go_sem] theorem Xbk:cV 224=1000000000:=rfl
@[go_sem] theorem Xaf:cV 232=1000000000:=rfl
@[go_sem] theorem Ywr:cV 240=1000000000:=rfl
@[go_sem] theorem Yym:cV 248=1000000000:=rfl
@[go_sem] theorem Yy5:cV 256=1000000000:=rfl
@[go_sem] theorem Xb3:cV 264=1000000000:=rfl
@[go_sem] theorem Yzk:cV 272=1000000000:=rfl
@[go_sem] theorem Xbn:cV 280=1000000000:=rfl
@[go_sem] theorem Yzz:cV 288=1000000000:=rfl
@[go_sem] theorem Yy2:cV 296=1000000000:=rfl
@[go_sem] theorem Yyz:cV 304=1000000000:=rfl
@[go_sem] theorem Xa4:cV 312=1000000000:=rfl
@[go_sem] theorem Yz1:cV 320=1000000000:=rfl
@[go_sem] theorem Yzx:cV 328=1000000000:=rfl
@[go_sem] theorem Yz8:cV 336=1000000000:=rfl
@[go_sem] theorem Ywm:cV 344=1000000000:=rfl
@[go_sem] theorem Yxb:cV 352=1000000000:=rfl
@[go_sem] theorem Yxd:cV 360=1000000000:=rfl
@[go_sem] theorem Yxu:cV 368=1000000000:=rfl
@[go_sem] theorem Xaw:cV 376=1000000000:=rfl
@[go_sem] theorem Yyx:cV 384=1000000000:=rfl
@[go_sem] theorem Xai:cV 392=1000000000:=rfl
@[go_sem] theorem Yyh:cV 400=1000000000:=rfl
end Go.dm
