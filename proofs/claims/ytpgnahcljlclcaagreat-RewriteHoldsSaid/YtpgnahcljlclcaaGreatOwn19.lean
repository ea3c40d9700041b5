/- Part 19 of my own framework and of the walks of functions: AbsT. -/
import Derived.Test.YtpgnahcljlclcaaGreatOwn18
set_option linter.unusedVariables false
set_option linter.unusedSectionVars false
set_option linter.unusedSimpArgs false
namespace Go.Abs
open Go
section
variable {P:Program} {lo:Ctx} {Q:AExit→St→Prop} {n:Nat} {k:List KI} {tm:List AVal} {σ:Store} {all:Array Oper} {l:List Oper}
theorem Ya0 {ι:Type} {I : ι→List AVal} {S : ι→Store} {μ : ι→Nat} {x : ι} {s:St}:loopQ P lo Q k I S μ x .normal s = ∃ y,leSt (I y) (S y) s∧μ y < μ x:=(Eq.refl _).trans rfl
theorem Yl2 {ι:Type} {I : ι→List AVal} {S : ι→Store} {μ : ι→Nat} {x : ι} {s:St} {i:Nat}:loopQ P lo Q k I S μ x (.exit i) s=EvK P lo Q k (.exit i) s:=(Eq.refl _).trans rfl
theorem Ykj {ι:Type} {I : ι→List AVal} {S : ι→Store} {μ : ι→Nat} {x : ι} {s:St} {i:Nat}:loopQ P lo Q k I S μ x (.goto i) s=EvK P lo Q k (.goto i) s:=(Eq.refl _).trans rfl
theorem Yqj {ι:Type} {I : ι→List AVal} {S : ι→Store} {μ : ι→Nat} {x : ι} {s:St}:loopQ P lo Q k I S μ x .ret s=EvK P lo Q k .ret s:=(Eq.refl _).trans rfl
theorem Ybr {rs:List ResultVar} {K:AVal→Store→Prop} {s:St}:retQ P rs K .normal s = ∃ r,resultsA P s rs=some r∧K r s.σ:=(Eq.refl _).trans rfl
theorem Yr7 {rs:List ResultVar} {K:AVal→Store→Prop} {s:St}:retQ P rs K .ret s = ∃ r,resultsA P s rs=some r∧K r s.σ:=(Eq.refl _).trans rfl
theorem Ye3 {ι:Type} {I : ι→List AVal} {S : ι→Store} {μ : ι→Nat} {x : ι} {s:St} {u:Value}:loopQ P lo Q k I S μ x (.panic u) s=EvK P lo Q k (.panic u) s:=(Eq.refl _).trans rfl
theorem Ypl {r r0:AVal}:isT r r0 σ=pT (fun _=>true) σ r r0:=(Eq.refl _).trans rfl
theorem Ylq {r:ResultVar} {tm:List AVal}:resultsA P ⟨tm,σ⟩ [r]=resA tm σ P r:=by
 simp only [resultsA,List.mapM_cons,List.mapM_nil]
 cases resA tm σ P r<;>rfl
theorem Yhv {tm:List AVal}:resultsA P ⟨tm,σ⟩ []=some (.tup []):=(Eq.refl _).trans rfl
theorem Yk5 {r r':ResultVar} {rs:List ResultVar} {tm:List AVal}:resultsA P ⟨tm,σ⟩ (r :: r' :: rs)=((r :: r' :: rs).mapM (resA tm σ P)).map .tup:=by
 simp only [resultsA,List.mapM_cons]
 cases resA tm σ P r with
 | none=>rfl
 | some a=>cases resA tm σ P r' with
  | none=>rfl
  | some b=>cases List.mapM (resA tm σ P) rs<;>rfl
theorem Yjg {t:Tmp} {tm:List AVal}:resA tm σ P (.tmp t)=some (tm.getD t .undef):=(Eq.refl _).trans rfl
theorem Yf3 {a:Tmp} {t:TypeId} {tm:List AVal}:resA tm σ P (.cell a t)=(layOf P t).bind fun l=>loadA σ l (tm.getD a .undef):=(Eq.refl _).trans rfl
theorem Yjv {tm':List AVal} {σ':Store}:leSt tm' σ' ⟨tm,σ⟩=(leTm tm' tm∧leSo σ' σ∧lowL σ'.length tm'∧lowSo σ'.length σ'):=(Eq.refl _).trans rfl
theorem Yh8:leTm [] []=True:=(Eq.refl _).trans rfl
theorem Zve {b:AVal} {as_ bs:List AVal}:leTm (.undef :: as_) (b :: bs)=leTm as_ bs:=by simp [leTm]
theorem Ydg {a:AVal} {as_ bs:List AVal}:leTm (a :: as_) (a :: bs)=leTm as_ bs:=by simp [leTm]
theorem Zy8 {a b:AVal} {as_ bs:List AVal}:leTm (a :: as_) (b :: bs)=((a=b∨a = .undef)∧leTm as_ bs):=(Eq.refl _).trans rfl
theorem Ydr:leSo [] σ=True:=(Eq.refl _).trans rfl
theorem Ycz {a b:Option Blk} {as_ bs:Store}:leSo (a :: as_) (b :: bs)=((a=b∨a=none)∧leSo as_ bs):=(Eq.refl _).trans rfl
theorem Ybq {b:Option Blk} {as_ bs:Store}:leSo (none :: as_) (b :: bs)=leSo as_ bs:=by simp [leSo]
theorem Zqh {a:Option Blk} {as_ bs:Store}:leSo (a :: as_) (a :: bs)=leSo as_ bs:=by simp [leSo]
theorem Zhe {n:Nat}:lowSo n []=True:=(Eq.refl _).trans rfl
theorem Zvw {n:Nat}:lowSo n (none :: σ)=lowSo n σ:=by simp [lowSo,lowO]
theorem Zxm {n:Nat} {b:Blk}:lowSo n (some b :: σ)=(b.low n∧lowSo n σ):=(Eq.refl _).trans rfl
theorem Yh3 {n:Nat}:lowL n []=True:=(Eq.refl _).trans rfl
theorem Zyk {n:Nat} {a:AVal} {as_:List AVal}:lowL n (a :: as_)=(a.low n∧lowL n as_):=(Eq.refl _).trans rfl
theorem Ydi {n:Nat}:AVal.low n .undef=True:=(Eq.refl _).trans rfl
theorem Yh9 {n:Nat} {b:Bool}:AVal.low n (.bool b)=True:=(Eq.refl _).trans rfl
theorem Yke {n:Nat} {k:IntKind} {i:Int}:AVal.low n (.int k i)=True:=(Eq.refl _).trans rfl
theorem Yl6 {n:Nat} {s:ByteArray}:AVal.low n (.str s)=True:=(Eq.refl _).trans rfl
theorem Zwj {n:Nat}:AVal.low n .nilptr=True:=(Eq.refl _).trans rfl
theorem Yf4 {n:Nat}:AVal.low n .nils=True:=(Eq.refl _).trans rfl
theorem Zyz {n:Nat}:AVal.low n .nilfn=True:=(Eq.refl _).trans rfl
theorem Zxo {n:Nat}:AVal.low n .nilmap=True:=(Eq.refl _).trans rfl
theorem Ya1 {n:Nat}:AVal.low n .nilif=True:=(Eq.refl _).trans rfl
theorem Ymp {n:Nat} {v:Value}:AVal.low n (.opq v)=True:=(Eq.refl _).trans rfl
theorem Yky {n b o:Nat}:AVal.low n (.ptr b o)=(b<n):=(Eq.refl _).trans rfl
theorem Ypo {n b i f:Nat}:AVal.low n (.rp b i f)=(b<n):=(Eq.refl _).trans rfl
theorem Yne {n b o m s:Nat}:AVal.low n (.os b o m s)=(b<n):=(Eq.refl _).trans rfl
theorem Yph {n b o m c s:Nat}:AVal.low n (.oc b o m c s)=(b<n):=(Eq.refl _).trans rfl
theorem Ykf {n b:Nat}:AVal.low n (.yld b)=(b<n):=(Eq.refl _).trans rfl
theorem Yj0 {n b:Nat}:AVal.low n (.map b)=(b<n):=(Eq.refl _).trans rfl
theorem Yrb {n b:Nat}:AVal.low n (.it b)=(b<n):=(Eq.refl _).trans rfl
theorem Ysi {n:Nat} {cs:List AVal}:AVal.low n (.pp cs)=lowL n cs:=(Eq.refl _).trans rfl
theorem Yr4 {n s:Nat} {cs:List AVal}:AVal.low n (.ps s cs)=lowL n cs:=(Eq.refl _).trans rfl
theorem Yn4 {n:Nat} {cs:List AVal}:AVal.low n (.agg cs)=lowL n cs:=(Eq.refl _).trans rfl
theorem Ykp {n:Nat} {cs:List AVal}:AVal.low n (.tup cs)=lowL n cs:=(Eq.refl _).trans rfl
theorem Yq9 {n:Nat} {f:FuncId} {a c:List AVal}:AVal.low n (.fn f a c)=(lowL n a∧lowL n c):=(Eq.refl _).trans rfl
theorem Yr9 {n:Nat} {a c:List AVal}:AVal.low n (.pm a c)=(lowL n a∧lowL n c):=(Eq.refl _).trans rfl
theorem Zzm {n:Nat} {t:TypeId} {v:AVal}:AVal.low n (.iface t v)=v.low n:=(Eq.refl _).trans rfl
theorem Yra {n:Nat} {cs:List AVal}:Blk.low n (.var cs)=lowL n cs:=(Eq.refl _).trans rfl
theorem Yr3 {n fz:Nat} {cs:List AVal}:Blk.low n (.row cs fz)=lowL n cs:=(Eq.refl _).trans rfl
theorem Ysp {n:Nat} {a c:List AVal} {f:Bool}:Blk.low n (.map a c f)=(lowL n a∧lowL n c):=(Eq.refl _).trans rfl
theorem Yse {n:Nat} {ks vs:List AVal} {s:List Nat}:Blk.low n (.mit ks vs s)=(lowL n ks∧lowL n vs):=(Eq.refl _).trans rfl
theorem Ylc {n pos:Nat} {s:ByteArray}:Blk.low n (.iter s pos)=True:=(Eq.refl _).trans rfl
theorem Ykd {F:Nat→Bool}:pTL F σ [] []=True:=by simp [pTL]
theorem Zmc {F:Nat→Bool} {t a:AVal} {ts as_:List AVal}:pTL F σ (t :: ts) (a :: as_)=(pT F σ t a∧pTL F σ ts as_):=by simp [pTL]
theorem Yhk {F:Nat→Bool} {ts:List AVal}:pTL F σ ts ts=True:=eq_true (Za1 F σ ts)
theorem Yjl {F:Nat→Bool} {t:AVal}:pT F σ t t=True:=eq_true (Zdx F σ t)
theorem Ypf {F:Nat→Bool} {cs cs':List AVal}:pT F σ (.agg cs') (.agg cs)=pTL F σ cs' cs:=by simp [pT]
theorem Ysq {F:Nat→Bool} {cs cs':List AVal}:pT F σ (.tup cs') (.tup cs)=pTL F σ cs' cs:=by simp [pT]
theorem Yun {F:Nat→Bool} {cs cs':List AVal}:pT F σ (.pp cs') (.pp cs)=pTL F σ cs' cs:=by simp [pT]
theorem Yja {F:Nat→Bool} {s:Nat} {ts:List AVal}:pT F σ (.ps s ts) .nils=(ts=[]):=by simp [pT]
theorem Yts {F:Nat→Bool} {s s':Nat} {ts es:List AVal}:pT F σ (.ps s ts) (.ps s' es)=(s'=s∧pTL F σ ts es):=by simp [pT]
def pTrow (F:Nat→Bool) (σ:Store) (ts:List AVal) (off n:Nat):Option Blk→Prop
 | some (.row es _)=>off+n≤es.length∧pTL F σ ts ((es.drop off).take n)
 | _=>False
theorem Ys5 {F:Nat→Bool} {s s' b off n:Nat} {ts:List AVal}:pT F σ (.ps s ts) (.os b off n s')=(s'=s∧F b=true∧pTrow F σ ts off n (getS σ b)):=by
 simp only [pT,pTrow];cases getS σ b with | none=>rfl | some x=>cases x<;>rfl
theorem Zlq {F:Nat→Bool} {ts es:List AVal} {off n fz:Nat}:pTrow F σ ts off n (some (.row es fz))=(off+n≤es.length∧pTL F σ ts ((es.drop off).take n)):=(Eq.refl _).trans rfl
theorem Ytx {F:Nat→Bool} {a b c d:List AVal}:pT F σ (.pm a b) (.pm c d)=(pTL F σ a c∧pTL F σ b d):=by simp [pT]
def pTmap (F:Nat→Bool) (σ:Store) (a b:List AVal):Option Blk→Prop
 | some (.map ks vs _)=>pTL F σ a ks∧pTL F σ b vs
 | _=>False
theorem Yre {F:Nat→Bool} {a b:List AVal} {m:Nat}:pT F σ (.pm a b) (.map m)=(F m=true∧pTmap F σ a b (getS σ m)):=by
 simp only [pT,pTmap];cases getS σ m with | none=>rfl | some x=>cases x<;>rfl
theorem Zx0 {F:Nat→Bool} {a b ks vs:List AVal} {f:Bool}:pTmap F σ a b (some (.map ks vs f))=(pTL F σ a ks∧pTL F σ b vs):=(Eq.refl _).trans rfl
theorem Yh4 {F:Nat→Bool} {t t':TypeId} {a b:AVal}:pT F σ (.iface t' a) (.iface t b)=(t'=t∧pT F σ a b):=by simp [pT]
theorem Ytm {F:Nat→Bool} {f f':FuncId} {a b c d:List AVal}:pT F σ (.fn f' a b) (.fn f c d)=(f'=f∧pTL F σ a c∧pTL F σ b d):=by simp [pT]
theorem Yj2 {F:Nat→Bool} {b:Bool} {a:AVal}:pT F σ (.bool b) a=(a = .bool b):=by simp [pT]
theorem Yoe {F:Nat→Bool} {k:IntKind} {i:Int} {a:AVal}:pT F σ (.int k i) a=(a = .int k i):=by simp [pT]
theorem Yok {F:Nat→Bool} {s:ByteArray} {a:AVal}:pT F σ (.str s) a=(a = .str s):=by simp [pT]
theorem Yql {F:Nat→Bool} {i:Nat}:frzI F i []=[]:=(Eq.refl _).trans rfl
theorem Ymx {F:Nat→Bool} {i:Nat} {b:Option Blk} {σ:Store}:frzI F i (b :: σ)=(if F i=true then frzO b else b) :: frzI F (i+1) σ:=(Eq.refl _).trans rfl
theorem Ysl {es:List AVal} {fz:Nat}:frzO (some (.row es fz))=some (.row es (max fz es.length)):=(Eq.refl _).trans rfl
theorem Yqs {ks vs:List AVal} {f:Bool}:frzO (some (.map ks vs f))=some (.map ks vs true):=(Eq.refl _).trans rfl
theorem Zba {b:Nat}:among [] b=false:=(Eq.refl _).trans rfl
theorem Zb1 {a b:Nat} {bs:List Nat}:among (a :: bs) b=(a==b||among bs b):=by simp [among]
end
section
variable {P:Program} {lo:Ctx} {Q:AExit→St→Prop} {n:Nat} {k:List KI} {tm:List AVal} {σ:Store} {all:Array Oper} {l:List Oper} {d:Option Tmp} {tt:TypeId} {ps:String} {af:Array Edge} {gg:Option (Nat×Bool)}
theorem Zxx {bi:Builtin} {args:Array Operand} {ts:Array TypeId}:goO P lo Q (n+1) ⟨d, .call ⟨.builtin bi,args,ts⟩,tt,ps,af,gg⟩ all l k tm σ=goR P lo Q n (opE P σ σ.length (ev tm) (.call ⟨.builtin bi,args,ts⟩)) d all l k tm:=(Eq.refl _).trans rfl
theorem Yls {f:FuncId} {a c:Array Operand}:goO P lo Q (n+1) ⟨d, .makeFunc (.func f) a c,tt,ps,af,gg⟩ all l k tm σ=goR P lo Q n (opE P σ σ.length (ev tm) (.makeFunc (.func f) a c)) d all l k tm:=(Eq.refl _).trans rfl
theorem Ym5 {x:Operand}:goO P lo Q (n+1) ⟨d, .move x,tt,ps,af,gg⟩ all l k tm σ=goR P lo Q n (opE P σ σ.length (ev tm) (.move x)) d all l k tm:=(Eq.refl _).trans rfl
theorem Yck {x:Operand}:goO P lo Q (n+1) ⟨d, .assign x,tt,ps,af,gg⟩ all l k tm σ=goR P lo Q n (opE P σ σ.length (ev tm) (.assign x)) d all l k tm:=(Eq.refl _).trans rfl
theorem Yle {x:Operand} {y:Operand} {z:Operand}:goO P lo Q (n+1) ⟨d, .pick x y z,tt,ps,af,gg⟩ all l k tm σ=goR P lo Q n (opE P σ σ.length (ev tm) (.pick x y z)) d all l k tm:=(Eq.refl _).trans rfl
theorem Yff {t:TypeId}:goO P lo Q (n+1) ⟨d, .alloc t,tt,ps,af,gg⟩ all l k tm σ=goR P lo Q n (opE P σ σ.length (ev tm) (.alloc t)) d all l k tm:=(Eq.refl _).trans rfl
theorem Yp4 {t:TypeId} {x:Operand}:goO P lo Q (n+1) ⟨d, .box t x,tt,ps,af,gg⟩ all l k tm σ=goR P lo Q n (opE P σ σ.length (ev tm) (.box t x)) d all l k tm:=(Eq.refl _).trans rfl
theorem Ydm {t:TypeId} {pp:Array (Nat×Operand)}:goO P lo Q (n+1) ⟨d, .build t pp,tt,ps,af,gg⟩ all l k tm σ=goR P lo Q n (opE P σ σ.length (ev tm) (.build t pp)) d all l k tm:=(Eq.refl _).trans rfl
theorem Zmn {t:TypeId} {m:Nat} {pp:Array (Nat×Operand)}:goO P lo Q (n+1) ⟨d, .buildSlice t m pp,tt,ps,af,gg⟩ all l k tm σ=goR P lo Q n (opE P σ σ.length (ev tm) (.buildSlice t m pp)) d all l k tm:=(Eq.refl _).trans rfl
theorem Ymz {t:TypeId} {x:Operand}:goO P lo Q (n+1) ⟨d, .load t x,tt,ps,af,gg⟩ all l k tm σ=goR P lo Q n (opE P σ σ.length (ev tm) (.load t x)) d all l k tm:=(Eq.refl _).trans rfl
theorem Yek {t:TypeId} {x:Operand} {y:Operand}:goO P lo Q (n+1) ⟨d, .store t x y,tt,ps,af,gg⟩ all l k tm σ=goR P lo Q n (opE P σ σ.length (ev tm) (.store t x y)) d all l k tm:=(Eq.refl _).trans rfl
theorem Zsl {x:Operand}:goO P lo Q (n+1) ⟨d, .nilCheck x,tt,ps,af,gg⟩ all l k tm σ=goR P lo Q n (opE P σ σ.length (ev tm) (.nilCheck x)) d all l k tm:=(Eq.refl _).trans rfl
theorem Ydz {op:BinOp} {t:TypeId} {x:Operand} {y:Operand} {u:TypeId}:goO P lo Q (n+1) ⟨d, .binOp op t x y u,tt,ps,af,gg⟩ all l k tm σ=goR P lo Q n (opE P σ σ.length (ev tm) (.binOp op t x y u)) d all l k tm:=(Eq.refl _).trans rfl
theorem Yn5 {uo:UnOp} {t:TypeId} {x:Operand}:goO P lo Q (n+1) ⟨d, .unOp uo t x,tt,ps,af,gg⟩ all l k tm σ=goR P lo Q n (opE P σ σ.length (ev tm) (.unOp uo t x)) d all l k tm:=(Eq.refl _).trans rfl
theorem Zx6 {t:TypeId} {u:TypeId} {x:Operand}:goO P lo Q (n+1) ⟨d, .convert t u x,tt,ps,af,gg⟩ all l k tm σ=goR P lo Q n (opE P σ σ.length (ev tm) (.convert t u x)) d all l k tm:=(Eq.refl _).trans rfl
theorem Zip {t:TypeId} {x:Operand}:goO P lo Q (n+1) ⟨d, .makeInterface t x,tt,ps,af,gg⟩ all l k tm σ=goR P lo Q n (opE P σ σ.length (ev tm) (.makeInterface t x)) d all l k tm:=(Eq.refl _).trans rfl
theorem Yep {t:TypeId} {x:Operand} {ox:Option Operand} {oy:Option Operand} {oz:Option Operand}:goO P lo Q (n+1) ⟨d, .slice t x ox oy oz,tt,ps,af,gg⟩ all l k tm σ=goR P lo Q n (opE P σ σ.length (ev tm) (.slice t x ox oy oz)) d all l k tm:=(Eq.refl _).trans rfl
theorem Zoo {t:TypeId} {x:Operand} {m:Nat}:goO P lo Q (n+1) ⟨d, .fieldAddr t x m,tt,ps,af,gg⟩ all l k tm σ=goR P lo Q n (opE P σ σ.length (ev tm) (.fieldAddr t x m)) d all l k tm:=(Eq.refl _).trans rfl
theorem Yed {t:TypeId} {x:Operand} {m:Nat}:goO P lo Q (n+1) ⟨d, .field t x m,tt,ps,af,gg⟩ all l k tm σ=goR P lo Q n (opE P σ σ.length (ev tm) (.field t x m)) d all l k tm:=(Eq.refl _).trans rfl
theorem Zpp {t:TypeId} {x:Operand} {y:Operand}:goO P lo Q (n+1) ⟨d, .indexAddr t x y,tt,ps,af,gg⟩ all l k tm σ=goR P lo Q n (opE P σ σ.length (ev tm) (.indexAddr t x y)) d all l k tm:=(Eq.refl _).trans rfl
theorem Yhg {t:TypeId} {x:Operand} {y:Operand}:goO P lo Q (n+1) ⟨d, .index t x y,tt,ps,af,gg⟩ all l k tm σ=goR P lo Q n (opE P σ σ.length (ev tm) (.index t x y)) d all l k tm:=(Eq.refl _).trans rfl
theorem Ycu {t:TypeId} {x:Operand} {y:Operand} {b:Bool}:goO P lo Q (n+1) ⟨d, .lookup t x y b,tt,ps,af,gg⟩ all l k tm σ=goR P lo Q n (opE P σ σ.length (ev tm) (.lookup t x y b)) d all l k tm:=(Eq.refl _).trans rfl
theorem Zqf {t:TypeId} {x:Operand} {y:Operand} {z:Operand}:goO P lo Q (n+1) ⟨d, .mapUpdate t x y z,tt,ps,af,gg⟩ all l k tm σ=goR P lo Q n (opE P σ σ.length (ev tm) (.mapUpdate t x y z)) d all l k tm:=(Eq.refl _).trans rfl
theorem Zyq {t:TypeId} {x:Operand} {y:Operand} {z:Operand}:goO P lo Q (n+1) ⟨d, .insert t x y z,tt,ps,af,gg⟩ all l k tm σ=goR P lo Q n (opE P σ σ.length (ev tm) (.insert t x y z)) d all l k tm:=(Eq.refl _).trans rfl
theorem Ygx {t:TypeId} {x:Operand}:goO P lo Q (n+1) ⟨d, .range t x,tt,ps,af,gg⟩ all l k tm σ=goR P lo Q n (opE P σ σ.length (ev tm) (.range t x)) d all l k tm:=(Eq.refl _).trans rfl
theorem Yjd {x:Operand}:goO P lo Q (n+1) ⟨d, .next x true,tt,ps,af,gg⟩ all l k tm σ=goR P lo Q n (opE P σ σ.length (ev tm) (.next x true)) d all l k tm:=(Eq.refl _).trans rfl
theorem Yi1 {x:Operand}:goO P lo Q (n+1) ⟨d, .entry x,tt,ps,af,gg⟩ all l k tm σ=goR P lo Q n (opE P σ σ.length (ev tm) (.entry x)) d all l k tm:=(Eq.refl _).trans rfl
theorem Yg9 {x:Operand}:goO P lo Q (n+1) ⟨d, .next x false,tt,ps,af,gg⟩ all l k tm σ=nextQ (ev tm x) σ fun r σ'=>EvK P lo Q (.ops all l :: k) .normal ⟨put tm d r,σ'⟩:=(Eq.refl _).trans rfl
theorem Zna {x:Operand} {t:TypeId} {u:TypeId} {b:Bool}:goO P lo Q (n+1) ⟨d, .typeAssert x t u b,tt,ps,af,gg⟩ all l k tm σ=goR P lo Q n (opE P σ σ.length (ev tm) (.typeAssert x t u b)) d all l k tm:=(Eq.refl _).trans rfl
theorem Zvq {x:Operand} {m:Nat}:goO P lo Q (n+1) ⟨d, .extract x m,tt,ps,af,gg⟩ all l k tm σ=goR P lo Q n (opE P σ σ.length (ev tm) (.extract x m)) d all l k tm:=(Eq.refl _).trans rfl
theorem Zoi {t:TypeId} {x:Operand} {y:Operand}:goO P lo Q (n+1) ⟨d, .makeSlice t x y,tt,ps,af,gg⟩ all l k tm σ=goR P lo Q n (opE P σ σ.length (ev tm) (.makeSlice t x y)) d all l k tm:=(Eq.refl _).trans rfl
theorem Zw5 {t:TypeId} {ox:Option Operand}:goO P lo Q (n+1) ⟨d, .makeMap t ox,tt,ps,af,gg⟩ all l k tm σ=goR P lo Q n (opE P σ σ.length (ev tm) (.makeMap t ox)) d all l k tm:=(Eq.refl _).trans rfl
end
attribute [go_sem] Zxx Yls Ym5 Yck Yle Yff Yp4 Ydm Zmn Ymz Yek Zsl Ydz Yn5 Zx6 Zip Yep Zoo Yed Zpp Yhg Ycu Zqf Zyq Ygx Yjd Yg9 Yi1 Zna Zvq Zoi Zw5
theorem Ynb {b:Bool}:gd2 true (some (.bool b))=some b:=by cases b<;>rfl
theorem Yp9 {b:Bool}:gd2 false (some (.bool b))=some (!b):=by cases b<;>rfl
theorem Yn8 {x y:AVal}:pickA (.bool true) x y=some x:=by cases x<;>cases y<;>rfl
theorem Yen {x y:AVal}:pickA (.bool false) x y=some y:=by cases x<;>cases y<;>rfl
attribute [go_sem high] Ynb Yp9 Yn8 Yen
attribute [go_sem high] Yqy Yme Yp5 Ymt Zve Ydg Zqh Ybq Yru Yjl Yhk
attribute [go_sem] Zvb Yti Yst Ytg Yq2 Ymf Yhb Ynz Ysh Yty Yma Yl4 Yp0 Zsj Yqp Zsc Zs5 Zvp Yai Zxi Zo7 Ybe Zvd Zwm Zq0 Zzx Zwp Yoq Yc1 R_if Yub Zr4 Zx3 Zpx Zsq Yf1 Yel Yet Yhs Ygo Ys0 Yef Zz6 Ymr Yjh Yr6 Ynl Yd9 Ykc Zy2 Yfv Yi2 Yfw Yei Zzf Zo5 Zxe Zyc Zpi Yar Ygs Ye0 Zwu Ye4 Ydk Zs9 Yfd Zy3 Znn Zzi Yhi Zs4 Zru Zr6 Yhq Ycs Yh2 Zsa Ygt Yju Yn3 Zzp Ymi Ykn Zvf Yjb Yg1 Zs8 Yfx Yln Zxr Zxj Yki Ym8 Yi6 Yjj Yqe Yqt Yfi Ymu Zzo Yfc Zzs Ycg Zmr Zmy Yaa Ycw Ydq Yjc Ykw Yaj Zt0 Yfr Yg8 Yal Yhu Zwo Zqc Zsz Zoh Zw0 Zx7 Zn6 Yhh Zzh Yfo Yey Yc0 Ybg Ytv Yth Yrg Yni Ypx Yl7 Ylr Yhl Yks Ynf Ynp Ys6 Yq3 Ysu Yp8 Yo8 Ysf Ypw Yog Ysr Yn6 Ykr Yee Yf6 Zx8 Yms Zwb Zt1 Zsn Ytj Ynu Yp2 Yj8 Zrp Ygu Yor Yqi Ypv Yrw Ynr Yr2 Yl9 Ypq Ylz Yo1 Ydt Yod Zxw Yrs Ykq Yce Ytr Yld Yuu Zwd Yp6 Zvb Yf8 Yeh Zwl Yf9 Yb6 Zvh Zwt Yeo Zme Yag Zgp Yr8 Yow Yrt Ylw Yo2 Yte Ytp Yl3 Yku Ylv Ylm Ymn Ycn Yi5 Yhr Zzc Zwy Ym4 Yfm Yr0 Yqg Yqw Ysb Yuq Ypu Yh1 Yrx Yoa Yqv Yrv Yos Yem Yrh Yeg Yq7 Yj4 Yuh Ymj Zpy Yon Ync Yuv Ysn Yu5 Yto Yuo Yux e_un Zz8 Ys1 Yuy Zs0 Yjk Zsf Yk4 Zsb Yjs Yex Zqv Yfg Ymw Zvs Ybu Ylo Ytc Ye9 Yo7 Yg7 Yao Yps Zzy Ycj Ya0 Yl2 Ykj Yqj Ye3 Yul Yqc Ysa Yro Ykz Yqk Yrk Yqf Yoi Yqn Yjn Ylp Yol Yna Yri Ypj Yns Ytd Ytu Yo4 Ybr Yr7 Ypl Ylq Yhv Yk5 Yjg Yf3 Yjv Yh8 Ydr Zhe Zvw Zxm Yh3 Zyk Ydi Yh9 Yke Yl6 Zwj Yf4 Zyz Zxo Ya1 Ymp Yky Ypo Yne Ykf Yj0 Yrb Ysi Yr4 Yn4 Ykp Yq9 Yr9 Zzm Yra Yr3 Ysp Ylc Yse Ykd Zmc Ypf Ysq Yun Yja Yts Ys5 Zlq Ytx Yre Zx0 Yh4 Ytm Yj2 Yoe Yok Yql Ymx Ysl Yqs Zba Zb1 Zah
attribute [go_sem] Option.bind_some Option.map_some Option.bind_none Option.map_none Option.join_some List.getD_cons_zero List.getD_cons_succ List.set_cons_zero List.set_cons_succ List.length_cons List.length_nil List.all_cons List.all_nil Bool.and_true Bool.true_and Bool.and_false Bool.false_and Bool.or_true Bool.or_false Bool.false_or Bool.true_or and_self if_true if_false Bool.false_eq_true Bool.true_eq_false true_implies false_implies and_true true_and and_false false_and forall_const reduceCtorEq List.nil_append List.replicate_zero List.replicate_succ List.cons_append Nat.lt_irrefl List.getElem?_cons_zero List.getElem?_cons_succ List.getElem?_nil Option.getD_some Option.getD_none List.drop_zero List.drop_succ_cons List.head?_cons ne_eq not_false_eq_true not_true_eq_false List.take_succ_cons List.take_zero List.map_cons List.map_nil List.mapM_cons List.mapM_nil Option.pure_def Option.bind_eq_bind Option.some.injEq exists_eq_left' exists_eq_left or_true true_or or_false false_or beq_self_eq_true decide_true decide_false Bool.not_true Bool.not_false Option.isSome_some Option.isSome_none Option.map_map Nat.zero_add Nat.add_zero
theorem Yl1 {n:Nat}:AVal.low n .anyb=True:=(Eq.refl _).trans rfl
attribute [go_sem] Yl1 Yuz Ype Ysg Ylk Ypi Ybs Zyy Yf2 Ydu Yqh Ysc Ygv Ykb Yml Yuk Yrm Yom Ys7 Yi8 Yjo Yug Yv0 Ytk
attribute [go_sem] Yph Ygn Yj7 Yry Yv1 Yq8 Ytz Yeq Yqx Zvx Zzq Yiz Yez Zw7 Yje Zww Ya3 Ym7 Ylb Ykh Yuw Ytf Zwn Yrf Znq Yu9 Ys4 Yea Yho
attribute [go_sem low] Zy8 Ycz Ypp Yny
@[go_sem] theorem Yu6:roomN 0=6000000000000:=rfl
@[go_sem] theorem Yup:roomN 1=6000000000000:=rfl
@[go_sem] theorem Yuf:roomN 2=6000000000000:=rfl
@[go_sem] theorem Yur:roomN 4=6000000000000:=rfl
@[go_sem] theorem Yue:roomN 8=6000000000000:=rfl
@[go_sem] theorem Yt3:roomN 16=6000000000000:=rfl
@[go_sem] theorem Yt6:roomN 24=6000000000000:=rfl
@[go_sem] theorem Yta:roomN 32=6000000000000:=rfl
@[go_sem] theorem Ysz:roomN 40=1000000000:=rfl
@[go_sem] theorem Yt2:roomN 48=1000000000:=rfl
@[go_sem] theorem Yt0:roomN 56=1000000000:=rfl
@[go_sem] theorem Yt8:roomN 64=1000000000:=rfl
@[go_sem] theorem Ysy:roomN 72=1000000000:=rfl
@[go_sem] theorem Yt9:roomN 80=1000000000:=rfl
@[go_sem] theorem Yt5:roomN 88=1000000000:=rfl
@[go_sem] theorem Ysv:roomN 96=1000000000:=rfl
@[go_sem] theorem Yrc:roomN 104=1000000000:=rfl
@[go_sem] theorem Yob:roomN 112=1000000000:=rfl
@[go_sem] theorem Yrz:roomN 120=1000000000:=rfl
@[go_sem] theorem Yq1:roomN 128=1000000000:=rfl
@[go_sem] theorem Yng:roomN 136=1000000000:=rfl
@[go_sem] theorem Yop:roomN 144=1000000000:=rfl
@[go_sem] theorem Yrr:roomN 152=1000000000:=rfl
@[go_sem] theorem Yox:roomN 160=1000000000:=rfl
@[go_sem] theorem Yoh:roomN 168=1000000000:=rfl
@[go_sem] theorem Yss:roomN 176=1000000000:=rfl
@[go_sem] theorem Ypg:roomN 184=1000000000:=rfl
@[go_sem] theorem Yr1:roomN 192=1000000000:=rfl
@[go_sem] theorem Ys9:roomN 200=1000000000:=rfl
@[go_sem] theorem Ypt:roomN 208=1000000000:=rfl
@[go_sem] theorem Yqq:roomN 216=1000000000:=rfl
@[go_sem] theorem Yqb:roomN 224=1000000000:=rfl
@[go_sem] theorem Ynm:roomN 232=1000000000:=rfl
@[go_sem] theorem Ysm:roomN 240=1000000000:=rfl
@[go_sem] theorem Ysd:roomN 248=1000000000:=rfl
@[go_sem] theorem Yo3:roomN 256=1000000000:=rfl
@[go_sem] theorem Ynq:roomN 264=1000000000:=rfl
@[go_sem] theorem Yoc:roomN 272=1000000000:=rfl
@[go_sem] theorem Yrj:roomN 280=1000000000:=rfl
@[go_sem] theorem Ynv:roomN 288=1000000000:=rfl
@[go_sem] theorem Yoj:roomN 296=1000000000:=rfl
@[go_sem] theorem Yqm:roomN 304=1000000000:=rfl
@[go_sem] theorem Yo0:roomN 312=1000000000:=rfl
@[go_sem] theorem Yoz:roomN 320=1000000000:=rfl
@[go_sem] theorem Ypm:roomN 328=1000000000:=rfl
@[go_sem] theorem Ynx:roomN 336=1000000000:=rfl
@[go_sem] theorem Ypn:roomN 344=1000000000:=rfl
@[go_sem] theorem Ypa:roomN 352=1000000000:=rfl
@[go_sem] theorem Ypk:roomN 360=1000000000:=rfl
@[go_sem] theorem You:roomN 368=1000000000:=rfl
@[go_sem] theorem Ypy:roomN 376=1000000000:=rfl
@[go_sem] theorem Ypr:roomN 384=1000000000:=rfl
@[go_sem] theorem Yq5:roomN 392=1000000000:=rfl
@[go_sem] theorem Yoo:roomN 400=1000000000:=rfl
end Go.Abs
