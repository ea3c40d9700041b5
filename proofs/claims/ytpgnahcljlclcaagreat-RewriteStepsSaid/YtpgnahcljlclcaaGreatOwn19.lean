/- Part 19 of my own framework and of the walks of functions: AbsT. -/
import Derived.Test.YtpgnahcljlclcaaGreatOwn18
set_option linter.unusedVariables false
set_option linter.unusedSectionVars false
set_option linter.unusedSimpArgs false
namespace Go.Abs
open Go
section
variable {P:Program} {lo:Ctx} {Q:AExit→St→Prop} {n:Nat} {k:List KI} {tm:List AVal} {σ:Store} {all:Array Oper} {l:List Oper}
theorem Ybn {ι:Type} {I : ι→List AVal} {S : ι→Store} {μ : ι→Nat} {x : ι} {s:St}:loopQ P lo Q k I S μ x .normal s = ∃ y,leSt (I y) (S y) s∧μ y < μ x:=(Eq.refl _).trans rfl
theorem Yo7 {ι:Type} {I : ι→List AVal} {S : ι→Store} {μ : ι→Nat} {x : ι} {s:St} {i:Nat}:loopQ P lo Q k I S μ x (.exit i) s=EvK P lo Q k (.exit i) s:=(Eq.refl _).trans rfl
theorem Ynb {ι:Type} {I : ι→List AVal} {S : ι→Store} {μ : ι→Nat} {x : ι} {s:St} {i:Nat}:loopQ P lo Q k I S μ x (.goto i) s=EvK P lo Q k (.goto i) s:=(Eq.refl _).trans rfl
theorem Ytq {ι:Type} {I : ι→List AVal} {S : ι→Store} {μ : ι→Nat} {x : ι} {s:St}:loopQ P lo Q k I S μ x .ret s=EvK P lo Q k .ret s:=(Eq.refl _).trans rfl
theorem Ydd {rs:List ResultVar} {K:AVal→Store→Prop} {s:St}:retQ P rs K .normal s = ∃ r,resultsA P s rs=some r∧K r s.σ:=(Eq.refl _).trans rfl
theorem Yta {rs:List ResultVar} {K:AVal→Store→Prop} {s:St}:retQ P rs K .ret s = ∃ r,resultsA P s rs=some r∧K r s.σ:=(Eq.refl _).trans rfl
theorem Ygy {ι:Type} {I : ι→List AVal} {S : ι→Store} {μ : ι→Nat} {x : ι} {s:St} {u:Value}:loopQ P lo Q k I S μ x (.panic u) s=EvK P lo Q k (.panic u) s:=(Eq.refl _).trans rfl
theorem Ysu {r r0:AVal}:isT r r0 σ=pT (fun _=>true) σ r r0:=(Eq.refl _).trans rfl
theorem Ynr {r:ResultVar} {tm:List AVal}:resultsA P ⟨tm,σ⟩ [r]=resA tm σ P r:=by
 simp only [resultsA,List.mapM_cons,List.mapM_nil]
 cases resA tm σ P r<;>rfl
theorem Yft {tm:List AVal}:resultsA P ⟨tm,σ⟩ []=some (.tup []):=(Eq.refl _).trans rfl
theorem Yo9 {r r':ResultVar} {rs:List ResultVar} {tm:List AVal}:resultsA P ⟨tm,σ⟩ (r :: r' :: rs)=((r :: r' :: rs).mapM (resA tm σ P)).map .tup:=by
 simp only [resultsA,List.mapM_cons]
 cases resA tm σ P r with
 | none=>rfl
 | some a=>cases resA tm σ P r' with
  | none=>rfl
  | some b=>cases List.mapM (resA tm σ P) rs<;>rfl
theorem Yky {t:Tmp} {tm:List AVal}:resA tm σ P (.tmp t)=some (tm.getD t .undef):=(Eq.refl _).trans rfl
theorem Yi9 {a:Tmp} {t:TypeId} {tm:List AVal}:resA tm σ P (.cell a t)=(layOf P t).bind fun l=>loadA σ l (tm.getD a .undef):=(Eq.refl _).trans rfl
theorem Yor {tm':List AVal} {σ':Store}:leSt tm' σ' ⟨tm,σ⟩=(leTm tm' tm∧leSo σ' σ∧lowL σ'.length tm'∧lowSo σ'.length σ'):=(Eq.refl _).trans rfl
theorem Yie:leTm [] []=True:=(Eq.refl _).trans rfl
theorem Zyp {b:AVal} {as_ bs:List AVal}:leTm (.undef :: as_) (b :: bs)=leTm as_ bs:=by simp [leTm]
theorem Yce {a:AVal} {as_ bs:List AVal}:leTm (a :: as_) (a :: bs)=leTm as_ bs:=by simp [leTm]
theorem Yc7 {a b:AVal} {as_ bs:List AVal}:leTm (a :: as_) (b :: bs)=((a=b∨a = .undef)∧leTm as_ bs):=(Eq.refl _).trans rfl
theorem Yi7:leSo [] σ=True:=(Eq.refl _).trans rfl
theorem Ydz {a b:Option Blk} {as_ bs:Store}:leSo (a :: as_) (b :: bs)=((a=b∨a=none)∧leSo as_ bs):=(Eq.refl _).trans rfl
theorem Zr3 {b:Option Blk} {as_ bs:Store}:leSo (none :: as_) (b :: bs)=leSo as_ bs:=by simp [leSo]
theorem Zqb {a:Option Blk} {as_ bs:Store}:leSo (a :: as_) (a :: bs)=leSo as_ bs:=by simp [leSo]
theorem Zhm {n:Nat}:lowSo n []=True:=(Eq.refl _).trans rfl
theorem Zm5 {n:Nat}:lowSo n (none :: σ)=lowSo n σ:=by simp [lowSo,lowO]
theorem Zwo {n:Nat} {b:Blk}:lowSo n (some b :: σ)=(b.low n∧lowSo n σ):=(Eq.refl _).trans rfl
theorem Yho {n:Nat}:lowL n []=True:=(Eq.refl _).trans rfl
theorem Yav {n:Nat} {a:AVal} {as_:List AVal}:lowL n (a :: as_)=(a.low n∧lowL n as_):=(Eq.refl _).trans rfl
theorem Ycb {n:Nat}:AVal.low n .undef=True:=(Eq.refl _).trans rfl
theorem Yha {n:Nat} {b:Bool}:AVal.low n (.bool b)=True:=(Eq.refl _).trans rfl
theorem Ynf {n:Nat} {k:IntKind} {i:Int}:AVal.low n (.int k i)=True:=(Eq.refl _).trans rfl
theorem Yll {n:Nat} {s:ByteArray}:AVal.low n (.str s)=True:=(Eq.refl _).trans rfl
theorem Zy6 {n:Nat}:AVal.low n .nilptr=True:=(Eq.refl _).trans rfl
theorem Ygt {n:Nat}:AVal.low n .nils=True:=(Eq.refl _).trans rfl
theorem Zzi {n:Nat}:AVal.low n .nilfn=True:=(Eq.refl _).trans rfl
theorem Zxf {n:Nat}:AVal.low n .nilmap=True:=(Eq.refl _).trans rfl
theorem Yaa {n:Nat}:AVal.low n .nilif=True:=(Eq.refl _).trans rfl
theorem Ymf {n:Nat} {v:Value}:AVal.low n (.opq v)=True:=(Eq.refl _).trans rfl
theorem Yp0 {n b o:Nat}:AVal.low n (.ptr b o)=(b<n):=(Eq.refl _).trans rfl
theorem Ysk {n b i f:Nat}:AVal.low n (.rp b i f)=(b<n):=(Eq.refl _).trans rfl
theorem Yrv {n b o m s:Nat}:AVal.low n (.os b o m s)=(b<n):=(Eq.refl _).trans rfl
theorem Yq6 {n b o m c s:Nat}:AVal.low n (.oc b o m c s)=(b<n):=(Eq.refl _).trans rfl
theorem Yn6 {n b:Nat}:AVal.low n (.yld b)=(b<n):=(Eq.refl _).trans rfl
theorem Yox {n b:Nat}:AVal.low n (.map b)=(b<n):=(Eq.refl _).trans rfl
theorem Ypx {n b:Nat}:AVal.low n (.it b)=(b<n):=(Eq.refl _).trans rfl
theorem Yr8 {n:Nat} {cs:List AVal}:AVal.low n (.pp cs)=lowL n cs:=(Eq.refl _).trans rfl
theorem Ysq {n s:Nat} {cs:List AVal}:AVal.low n (.ps s cs)=lowL n cs:=(Eq.refl _).trans rfl
theorem Ym8 {n:Nat} {cs:List AVal}:AVal.low n (.agg cs)=lowL n cs:=(Eq.refl _).trans rfl
theorem Yo0 {n:Nat} {cs:List AVal}:AVal.low n (.tup cs)=lowL n cs:=(Eq.refl _).trans rfl
theorem Yrg {n:Nat} {f:FuncId} {a c:List AVal}:AVal.low n (.fn f a c)=(lowL n a∧lowL n c):=(Eq.refl _).trans rfl
theorem Yuq {n:Nat} {a c:List AVal}:AVal.low n (.pm a c)=(lowL n a∧lowL n c):=(Eq.refl _).trans rfl
theorem Yb8 {n:Nat} {t:TypeId} {v:AVal}:AVal.low n (.iface t v)=v.low n:=(Eq.refl _).trans rfl
theorem Yr1 {n:Nat} {cs:List AVal}:Blk.low n (.var cs)=lowL n cs:=(Eq.refl _).trans rfl
theorem Ys5 {n fz:Nat} {cs:List AVal}:Blk.low n (.row cs fz)=lowL n cs:=(Eq.refl _).trans rfl
theorem Ytm {n:Nat} {a c:List AVal} {f:Bool}:Blk.low n (.map a c f)=(lowL n a∧lowL n c):=(Eq.refl _).trans rfl
theorem Yrt {n:Nat} {ks vs:List AVal} {s:List Nat}:Blk.low n (.mit ks vs s)=(lowL n ks∧lowL n vs):=(Eq.refl _).trans rfl
theorem Ykz {n pos:Nat} {s:ByteArray}:Blk.low n (.iter s pos)=True:=(Eq.refl _).trans rfl
theorem Yn4 {F:Nat→Bool}:pTL F σ [] []=True:=by simp [pTL]
theorem Zcv {F:Nat→Bool} {t a:AVal} {ts as_:List AVal}:pTL F σ (t :: ts) (a :: as_)=(pT F σ t a∧pTL F σ ts as_):=by simp [pTL]
theorem Yjg {F:Nat→Bool} {ts:List AVal}:pTL F σ ts ts=True:=eq_true (Za1 F σ ts)
theorem Yp2 {F:Nat→Bool} {t:AVal}:pT F σ t t=True:=eq_true (Zb4 F σ t)
theorem Ypt {F:Nat→Bool} {cs cs':List AVal}:pT F σ (.agg cs') (.agg cs)=pTL F σ cs' cs:=by simp [pT]
theorem Ysg {F:Nat→Bool} {cs cs':List AVal}:pT F σ (.tup cs') (.tup cs)=pTL F σ cs' cs:=by simp [pT]
theorem Yw3 {F:Nat→Bool} {cs cs':List AVal}:pT F σ (.pp cs') (.pp cs)=pTL F σ cs' cs:=by simp [pT]
theorem Yl6 {F:Nat→Bool} {s:Nat} {ts:List AVal}:pT F σ (.ps s ts) .nils=(ts=[]):=by simp [pT]
theorem Ywy {F:Nat→Bool} {s s':Nat} {ts es:List AVal}:pT F σ (.ps s ts) (.ps s' es)=(s'=s∧pTL F σ ts es):=by simp [pT]
def pTrow (F:Nat→Bool) (σ:Store) (ts:List AVal) (off n:Nat):Option Blk→Prop
 | some (.row es _)=>off+n≤es.length∧pTL F σ ts ((es.drop off).take n)
 | _=>False
theorem Yu4 {F:Nat→Bool} {s s' b off n:Nat} {ts:List AVal}:pT F σ (.ps s ts) (.os b off n s')=(s'=s∧F b=true∧pTrow F σ ts off n (getS σ b)):=by
 simp only [pT,pTrow];cases getS σ b with | none=>rfl | some x=>cases x<;>rfl
theorem Zmb {F:Nat→Bool} {ts es:List AVal} {off n fz:Nat}:pTrow F σ ts off n (some (.row es fz))=(off+n≤es.length∧pTL F σ ts ((es.drop off).take n)):=(Eq.refl _).trans rfl
theorem Ywo {F:Nat→Bool} {a b c d:List AVal}:pT F σ (.pm a b) (.pm c d)=(pTL F σ a c∧pTL F σ b d):=by simp [pT]
def pTmap (F:Nat→Bool) (σ:Store) (a b:List AVal):Option Blk→Prop
 | some (.map ks vs _)=>pTL F σ a ks∧pTL F σ b vs
 | _=>False
theorem Yt6 {F:Nat→Bool} {a b:List AVal} {m:Nat}:pT F σ (.pm a b) (.map m)=(F m=true∧pTmap F σ a b (getS σ m)):=by
 simp only [pT,pTmap];cases getS σ m with | none=>rfl | some x=>cases x<;>rfl
theorem Zyv {F:Nat→Bool} {a b ks vs:List AVal} {f:Bool}:pTmap F σ a b (some (.map ks vs f))=(pTL F σ a ks∧pTL F σ b vs):=(Eq.refl _).trans rfl
theorem Yjv {F:Nat→Bool} {t t':TypeId} {a b:AVal}:pT F σ (.iface t' a) (.iface t b)=(t'=t∧pT F σ a b):=by simp [pT]
theorem Ywh {F:Nat→Bool} {f f':FuncId} {a b c d:List AVal}:pT F σ (.fn f' a b) (.fn f c d)=(f'=f∧pTL F σ a c∧pTL F σ b d):=by simp [pT]
theorem Yl4 {F:Nat→Bool} {b:Bool} {a:AVal}:pT F σ (.bool b) a=(a = .bool b):=by simp [pT]
theorem Yuc {F:Nat→Bool} {k:IntKind} {i:Int} {a:AVal}:pT F σ (.int k i) a=(a = .int k i):=by simp [pT]
theorem Yph {F:Nat→Bool} {s:ByteArray} {a:AVal}:pT F σ (.str s) a=(a = .str s):=by simp [pT]
theorem Yrr {F:Nat→Bool} {i:Nat}:frzI F i []=[]:=(Eq.refl _).trans rfl
theorem Ym7 {F:Nat→Bool} {i:Nat} {b:Option Blk} {σ:Store}:frzI F i (b :: σ)=(if F i=true then frzO b else b) :: frzI F (i+1) σ:=(Eq.refl _).trans rfl
theorem Ytj {es:List AVal} {fz:Nat}:frzO (some (.row es fz))=some (.row es (max fz es.length)):=(Eq.refl _).trans rfl
theorem Yu2 {ks vs:List AVal} {f:Bool}:frzO (some (.map ks vs f))=some (.map ks vs true):=(Eq.refl _).trans rfl
theorem Zbc {b:Nat}:among [] b=false:=(Eq.refl _).trans rfl
theorem Zb2 {a b:Nat} {bs:List Nat}:among (a :: bs) b=(a==b||among bs b):=by simp [among]
end
section
variable {P:Program} {lo:Ctx} {Q:AExit→St→Prop} {n:Nat} {k:List KI} {tm:List AVal} {σ:Store} {all:Array Oper} {l:List Oper} {d:Option Tmp} {tt:TypeId} {ps:String} {af:Array Edge} {gg:Option (Nat×Bool)}
theorem Zyz {bi:Builtin} {args:Array Operand} {ts:Array TypeId}:goO P lo Q (n+1) ⟨d, .call ⟨.builtin bi,args,ts⟩,tt,ps,af,gg⟩ all l k tm σ=goR P lo Q n (opE P σ σ.length (ev tm) (.call ⟨.builtin bi,args,ts⟩)) d all l k tm:=(Eq.refl _).trans rfl
theorem Yn7 {f:FuncId} {a c:Array Operand}:goO P lo Q (n+1) ⟨d, .makeFunc (.func f) a c,tt,ps,af,gg⟩ all l k tm σ=goR P lo Q n (opE P σ σ.length (ev tm) (.makeFunc (.func f) a c)) d all l k tm:=(Eq.refl _).trans rfl
theorem Yne {x:Operand}:goO P lo Q (n+1) ⟨d, .move x,tt,ps,af,gg⟩ all l k tm σ=goR P lo Q n (opE P σ σ.length (ev tm) (.move x)) d all l k tm:=(Eq.refl _).trans rfl
theorem Ybb {x:Operand}:goO P lo Q (n+1) ⟨d, .assign x,tt,ps,af,gg⟩ all l k tm σ=goR P lo Q n (opE P σ σ.length (ev tm) (.assign x)) d all l k tm:=(Eq.refl _).trans rfl
theorem Yow {x:Operand} {y:Operand} {z:Operand}:goO P lo Q (n+1) ⟨d, .pick x y z,tt,ps,af,gg⟩ all l k tm σ=goR P lo Q n (opE P σ σ.length (ev tm) (.pick x y z)) d all l k tm:=(Eq.refl _).trans rfl
theorem Yf7 {t:TypeId}:goO P lo Q (n+1) ⟨d, .alloc t,tt,ps,af,gg⟩ all l k tm σ=goR P lo Q n (opE P σ σ.length (ev tm) (.alloc t)) d all l k tm:=(Eq.refl _).trans rfl
theorem Yqy {t:TypeId} {x:Operand}:goO P lo Q (n+1) ⟨d, .box t x,tt,ps,af,gg⟩ all l k tm σ=goR P lo Q n (opE P σ σ.length (ev tm) (.box t x)) d all l k tm:=(Eq.refl _).trans rfl
theorem Yg7 {t:TypeId} {pp:Array (Nat×Operand)}:goO P lo Q (n+1) ⟨d, .build t pp,tt,ps,af,gg⟩ all l k tm σ=goR P lo Q n (opE P σ σ.length (ev tm) (.build t pp)) d all l k tm:=(Eq.refl _).trans rfl
theorem Znf {t:TypeId} {m:Nat} {pp:Array (Nat×Operand)}:goO P lo Q (n+1) ⟨d, .buildSlice t m pp,tt,ps,af,gg⟩ all l k tm σ=goR P lo Q n (opE P σ σ.length (ev tm) (.buildSlice t m pp)) d all l k tm:=(Eq.refl _).trans rfl
theorem Ymz {t:TypeId} {x:Operand}:goO P lo Q (n+1) ⟨d, .load t x,tt,ps,af,gg⟩ all l k tm σ=goR P lo Q n (opE P σ σ.length (ev tm) (.load t x)) d all l k tm:=(Eq.refl _).trans rfl
theorem Ygd {t:TypeId} {x:Operand} {y:Operand}:goO P lo Q (n+1) ⟨d, .store t x y,tt,ps,af,gg⟩ all l k tm σ=goR P lo Q n (opE P σ σ.length (ev tm) (.store t x y)) d all l k tm:=(Eq.refl _).trans rfl
theorem Zso {x:Operand}:goO P lo Q (n+1) ⟨d, .nilCheck x,tt,ps,af,gg⟩ all l k tm σ=goR P lo Q n (opE P σ σ.length (ev tm) (.nilCheck x)) d all l k tm:=(Eq.refl _).trans rfl
theorem Yjc {op:BinOp} {t:TypeId} {x:Operand} {y:Operand} {u:TypeId}:goO P lo Q (n+1) ⟨d, .binOp op t x y u,tt,ps,af,gg⟩ all l k tm σ=goR P lo Q n (opE P σ σ.length (ev tm) (.binOp op t x y u)) d all l k tm:=(Eq.refl _).trans rfl
theorem Yp5 {uo:UnOp} {t:TypeId} {x:Operand}:goO P lo Q (n+1) ⟨d, .unOp uo t x,tt,ps,af,gg⟩ all l k tm σ=goR P lo Q n (opE P σ σ.length (ev tm) (.unOp uo t x)) d all l k tm:=(Eq.refl _).trans rfl
theorem Zwq {t:TypeId} {u:TypeId} {x:Operand}:goO P lo Q (n+1) ⟨d, .convert t u x,tt,ps,af,gg⟩ all l k tm σ=goR P lo Q n (opE P σ σ.length (ev tm) (.convert t u x)) d all l k tm:=(Eq.refl _).trans rfl
theorem Ziy {t:TypeId} {x:Operand}:goO P lo Q (n+1) ⟨d, .makeInterface t x,tt,ps,af,gg⟩ all l k tm σ=goR P lo Q n (opE P σ σ.length (ev tm) (.makeInterface t x)) d all l k tm:=(Eq.refl _).trans rfl
theorem Yi8 {t:TypeId} {x:Operand} {ox:Option Operand} {oy:Option Operand} {oz:Option Operand}:goO P lo Q (n+1) ⟨d, .slice t x ox oy oz,tt,ps,af,gg⟩ all l k tm σ=goR P lo Q n (opE P σ σ.length (ev tm) (.slice t x ox oy oz)) d all l k tm:=(Eq.refl _).trans rfl
theorem Zrh {t:TypeId} {x:Operand} {m:Nat}:goO P lo Q (n+1) ⟨d, .fieldAddr t x m,tt,ps,af,gg⟩ all l k tm σ=goR P lo Q n (opE P σ σ.length (ev tm) (.fieldAddr t x m)) d all l k tm:=(Eq.refl _).trans rfl
theorem Yjr {t:TypeId} {x:Operand} {m:Nat}:goO P lo Q (n+1) ⟨d, .field t x m,tt,ps,af,gg⟩ all l k tm σ=goR P lo Q n (opE P σ σ.length (ev tm) (.field t x m)) d all l k tm:=(Eq.refl _).trans rfl
theorem Zof {t:TypeId} {x:Operand} {y:Operand}:goO P lo Q (n+1) ⟨d, .indexAddr t x y,tt,ps,af,gg⟩ all l k tm σ=goR P lo Q n (opE P σ σ.length (ev tm) (.indexAddr t x y)) d all l k tm:=(Eq.refl _).trans rfl
theorem Ygw {t:TypeId} {x:Operand} {y:Operand}:goO P lo Q (n+1) ⟨d, .index t x y,tt,ps,af,gg⟩ all l k tm σ=goR P lo Q n (opE P σ σ.length (ev tm) (.index t x y)) d all l k tm:=(Eq.refl _).trans rfl
theorem Yec {t:TypeId} {x:Operand} {y:Operand} {b:Bool}:goO P lo Q (n+1) ⟨d, .lookup t x y b,tt,ps,af,gg⟩ all l k tm σ=goR P lo Q n (opE P σ σ.length (ev tm) (.lookup t x y b)) d all l k tm:=(Eq.refl _).trans rfl
theorem Zqa {t:TypeId} {x:Operand} {y:Operand} {z:Operand}:goO P lo Q (n+1) ⟨d, .mapUpdate t x y z,tt,ps,af,gg⟩ all l k tm σ=goR P lo Q n (opE P σ σ.length (ev tm) (.mapUpdate t x y z)) d all l k tm:=(Eq.refl _).trans rfl
theorem Yb6 {t:TypeId} {x:Operand} {y:Operand} {z:Operand}:goO P lo Q (n+1) ⟨d, .insert t x y z,tt,ps,af,gg⟩ all l k tm σ=goR P lo Q n (opE P σ σ.length (ev tm) (.insert t x y z)) d all l k tm:=(Eq.refl _).trans rfl
theorem Yfa {t:TypeId} {x:Operand}:goO P lo Q (n+1) ⟨d, .range t x,tt,ps,af,gg⟩ all l k tm σ=goR P lo Q n (opE P σ σ.length (ev tm) (.range t x)) d all l k tm:=(Eq.refl _).trans rfl
theorem Yna {x:Operand}:goO P lo Q (n+1) ⟨d, .next x true,tt,ps,af,gg⟩ all l k tm σ=goR P lo Q n (opE P σ σ.length (ev tm) (.next x true)) d all l k tm:=(Eq.refl _).trans rfl
theorem Yfi {x:Operand}:goO P lo Q (n+1) ⟨d, .entry x,tt,ps,af,gg⟩ all l k tm σ=goR P lo Q n (opE P σ σ.length (ev tm) (.entry x)) d all l k tm:=(Eq.refl _).trans rfl
theorem Ygj {x:Operand}:goO P lo Q (n+1) ⟨d, .next x false,tt,ps,af,gg⟩ all l k tm σ=nextQ (ev tm x) σ fun r σ'=>EvK P lo Q (.ops all l :: k) .normal ⟨put tm d r,σ'⟩:=(Eq.refl _).trans rfl
theorem Znz {x:Operand} {t:TypeId} {u:TypeId} {b:Bool}:goO P lo Q (n+1) ⟨d, .typeAssert x t u b,tt,ps,af,gg⟩ all l k tm σ=goR P lo Q n (opE P σ σ.length (ev tm) (.typeAssert x t u b)) d all l k tm:=(Eq.refl _).trans rfl
theorem Zx4 {x:Operand} {m:Nat}:goO P lo Q (n+1) ⟨d, .extract x m,tt,ps,af,gg⟩ all l k tm σ=goR P lo Q n (opE P σ σ.length (ev tm) (.extract x m)) d all l k tm:=(Eq.refl _).trans rfl
theorem Zp7 {t:TypeId} {x:Operand} {y:Operand}:goO P lo Q (n+1) ⟨d, .makeSlice t x y,tt,ps,af,gg⟩ all l k tm σ=goR P lo Q n (opE P σ σ.length (ev tm) (.makeSlice t x y)) d all l k tm:=(Eq.refl _).trans rfl
theorem Zxb {t:TypeId} {ox:Option Operand}:goO P lo Q (n+1) ⟨d, .makeMap t ox,tt,ps,af,gg⟩ all l k tm σ=goR P lo Q n (opE P σ σ.length (ev tm) (.makeMap t ox)) d all l k tm:=(Eq.refl _).trans rfl
end
attribute [go_sem] Zyz Yn7 Yne Ybb Yow Yf7 Yqy Yg7 Znf Ymz Ygd Zso Yjc Yp5 Zwq Ziy Yi8 Zrh Yjr Zof Ygw Yec Zqa Yb6 Yfa Yna Ygj Yfi Znz Zx4 Zp7 Zxb
theorem Ymc {b:Bool}:gd2 true (some (.bool b))=some b:=by cases b<;>rfl
theorem Ypm {b:Bool}:gd2 false (some (.bool b))=some (!b):=by cases b<;>rfl
theorem Yny {x y:AVal}:pickA (.bool true) x y=some x:=by cases x<;>cases y<;>rfl
theorem Ygz {x y:AVal}:pickA (.bool false) x y=some y:=by cases x<;>cases y<;>rfl
attribute [go_sem high] Ymc Ypm Yny Ygz
attribute [go_sem high] Yqc Yov Yqr Yp8 Zyp Yce Zqb Zr3 Yq3 Yp2 Yjg
attribute [go_sem] Zuj Yvr Yug Yvy Yti Yof Yhy Yq8 Yup Yx2 Ymk Yms Yru Zrs Yrx Zti Zu0 Zz0 Ych Zxi Zr4 Yei Zyn Zxp Zqt Yed Zyb Yuv Ycp R_if Ywe Zsx Zwc Zpm Zs4 Ygp Yjw Yht Yj4 Yji Yre Yjq Zzg Yng Ylq Yt7 Yrq Ycz Ykp Yak Ygq Yh0 Yfg Yfx Ycq Zqg Zwt Yck Zpx Zzy Yih Yjf Zwv Yfz Yfw Zrz Yf1 Yes Zpf Yaj Yjl Ztl Zrl Zt3 Yi4 Ybt Yia Ztq Yil Ylz Ypa Ycy Yo5 Ynk Zx3 Yn3 Yfq Zto Yj9 Yp6 Zyj Zxe Yl2 Ynv Ygx Yl1 Yr6 Yui Yfu Yob Yeg Ygc Ycl Ya0 Zn0 Zng Zzr Ybg Yim Ylj Yod Yc1 Zrm Ygm Yfe Ybm Yhb Zx8 Zoo Zsp Zph Zxt Zwp Zn2 Yiy Ydh Yjk Yhs Yb0 Ycn Ywz Yvn Ypr Ypo Yqz Yoj Yog Yid Yo8 Yqp Yuf Yqa Ys7 Yry Yts Yqb Ytc Yr2 Ytf Ytp Ynd Ylu Yja Yg0 Zxj Yoe Zyi Zu3 Ztr Ywl Ysp Ys0 You Zru Ygn Yq5 Yto Yus Yrb Ys9 Yu6 Ymh Yu3 Ym6 Ytw Ygh Yq9 Zxu Yq0 Ync Zzo Yvk Ykt Ywp Zyt Ysa Zuj Ygg Yj2 Zyo Yj3 Zzm Zxg Zxz Yh1 Znj Ydq Zgx Ytk Ysj Yt3 Yoh Yqx Ywv Yvh Ylk Yle Yn0 Yot Ym0 Ycw Yf6 Ygi Ybh Zyu Ylw Yi5 Yun Ypn Ypp Ysw Yvd Ytn Yhr Ysi Ytg Ypv Yue Yu9 Yf9 Ypw Ygu Yq4 Yl9 Ywr Yoa Zp0 Ytx Yks Ywc Ysn Ywk Ywj Yww Yw7 e_un Ybz Yqd Ywn Zt2 Ynm Zt7 Ymw Ztp Yn8 Ygb Zsa Yf4 Yop Zz1 Yek Yno Yvv Yfo Ytb Yi1 Ya2 Yr0 Ydx Zz7 Ybn Yo7 Ynb Ytq Ygy Yvg Yss Ys2 Yub Ynx Ypi Ytd Yuu Yqm Yr3 Yoz Ylh Yrs Yme Yra Yrz Yt5 Yvo Yvf Yuj Ydd Yta Ysu Ynr Yft Yo9 Yky Yi9 Yor Yie Yi7 Zhm Zm5 Zwo Yho Yav Ycb Yha Ynf Yll Zy6 Ygt Zzi Zxf Yaa Ymf Yp0 Ysk Yrv Yn6 Yox Ypx Yr8 Ysq Ym8 Yo0 Yrg Yuq Yb8 Yr1 Ys5 Ytm Ykz Yrt Yn4 Zcv Ypt Ysg Yw3 Yl6 Ywy Yu4 Zmb Ywo Yt6 Zyv Yjv Ywh Yl4 Yuc Yph Yrr Ym7 Ytj Yu2 Zbc Zb2 Zad
attribute [go_sem] Option.bind_some Option.map_some Option.bind_none Option.map_none Option.join_some List.getD_cons_zero List.getD_cons_succ List.set_cons_zero List.set_cons_succ List.length_cons List.length_nil List.all_cons List.all_nil Bool.and_true Bool.true_and Bool.and_false Bool.false_and Bool.or_true Bool.or_false Bool.false_or Bool.true_or and_self if_true if_false Bool.false_eq_true Bool.true_eq_false true_implies false_implies and_true true_and and_false false_and forall_const reduceCtorEq List.nil_append List.replicate_zero List.replicate_succ List.cons_append Nat.lt_irrefl List.getElem?_cons_zero List.getElem?_cons_succ List.getElem?_nil Option.getD_some Option.getD_none List.drop_zero List.drop_succ_cons List.head?_cons ne_eq not_false_eq_true not_true_eq_false List.take_succ_cons List.take_zero List.map_cons List.map_nil List.mapM_cons List.mapM_nil Option.pure_def Option.bind_eq_bind Option.some.injEq exists_eq_left' exists_eq_left or_true true_or or_false false_or beq_self_eq_true decide_true decide_false Bool.not_true Bool.not_false Option.isSome_some Option.isSome_none Option.map_map Nat.zero_add Nat.add_zero
theorem Yoi {n:Nat}:AVal.low n .anyb=True:=(Eq.refl _).trans rfl
attribute [go_sem] Yoi Yvl Yrf Ypu Yld Ytv Yal Yc2 Yh7 Ygf Ypg Yrj Yju Ynw Ykw Yvq Yro Yrc Ysd Yiu Ym3 Yw9 Yvu Yvj
attribute [go_sem] Yq6 Yga Ynj Yut Yw1 Ysr Ywu Yge Ysy Zyc Yai Ymo Yit Zxd Yo4 Zxk Ye1 Yol Ym1 Yml Yve Ywt Zyf Yul Zpt Yvt Yte Yg4 Yio
attribute [go_sem low] Yc7 Ydz Ysm Yqo
@[go_sem] theorem Yw5:roomN 0=6000000000000:=rfl
@[go_sem] theorem Ywx:roomN 1=6000000000000:=rfl
@[go_sem] theorem Ywd:roomN 2=6000000000000:=rfl
@[go_sem] theorem Yw8:roomN 4=6000000000000:=rfl
@[go_sem] theorem Yw0:roomN 8=6000000000000:=rfl
@[go_sem] theorem Yvb:roomN 16=6000000000000:=rfl
@[go_sem] theorem Yv0:roomN 24=6000000000000:=rfl
@[go_sem] theorem Yux:roomN 32=6000000000000:=rfl
@[go_sem] theorem Yv3:roomN 40=1000000000:=rfl
@[go_sem] theorem Yv4:roomN 48=1000000000:=rfl
@[go_sem] theorem Yuw:roomN 56=1000000000:=rfl
@[go_sem] theorem Yv2:roomN 64=1000000000:=rfl
@[go_sem] theorem Yva:roomN 72=1000000000:=rfl
@[go_sem] theorem Yv1:roomN 80=1000000000:=rfl
@[go_sem] theorem Yv8:roomN 88=1000000000:=rfl
@[go_sem] theorem Yv6:roomN 96=1000000000:=rfl
@[go_sem] theorem Yqq:roomN 104=1000000000:=rfl
@[go_sem] theorem Ysv:roomN 112=1000000000:=rfl
@[go_sem] theorem Ypl:roomN 120=1000000000:=rfl
@[go_sem] theorem Yrn:roomN 128=1000000000:=rfl
@[go_sem] theorem Yqs:roomN 136=1000000000:=rfl
@[go_sem] theorem Yqe:roomN 144=1000000000:=rfl
@[go_sem] theorem Ytu:roomN 152=1000000000:=rfl
@[go_sem] theorem Ytr:roomN 160=1000000000:=rfl
@[go_sem] theorem Yr9:roomN 168=1000000000:=rfl
@[go_sem] theorem Yrk:roomN 176=1000000000:=rfl
@[go_sem] theorem Yql:roomN 184=1000000000:=rfl
@[go_sem] theorem Yqu:roomN 192=1000000000:=rfl
@[go_sem] theorem Yt8:roomN 200=1000000000:=rfl
@[go_sem] theorem Yqt:roomN 208=1000000000:=rfl
@[go_sem] theorem Yqw:roomN 216=1000000000:=rfl
@[go_sem] theorem Yq1:roomN 224=1000000000:=rfl
@[go_sem] theorem Yqg:roomN 232=1000000000:=rfl
@[go_sem] theorem Yrw:roomN 240=1000000000:=rfl
@[go_sem] theorem Yrm:roomN 248=1000000000:=rfl
@[go_sem] theorem Yu1:roomN 256=1000000000:=rfl
@[go_sem] theorem Ypz:roomN 264=1000000000:=rfl
@[go_sem] theorem Yua:roomN 272=1000000000:=rfl
@[go_sem] theorem Yqf:roomN 280=1000000000:=rfl
@[go_sem] theorem Ysf:roomN 288=1000000000:=rfl
@[go_sem] theorem Ys4:roomN 296=1000000000:=rfl
@[go_sem] theorem Yqn:roomN 304=1000000000:=rfl
@[go_sem] theorem Yu8:roomN 312=1000000000:=rfl
@[go_sem] theorem Yt4:roomN 320=1000000000:=rfl
@[go_sem] theorem Ytt:roomN 328=1000000000:=rfl
@[go_sem] theorem Yur:roomN 336=1000000000:=rfl
@[go_sem] theorem Yso:roomN 344=1000000000:=rfl
@[go_sem] theorem Ysz:roomN 352=1000000000:=rfl
@[go_sem] theorem Yt9:roomN 360=1000000000:=rfl
@[go_sem] theorem Ypk:roomN 368=1000000000:=rfl
@[go_sem] theorem Ysx:roomN 376=1000000000:=rfl
@[go_sem] theorem Ys3:roomN 384=1000000000:=rfl
@[go_sem] theorem Yt2:roomN 392=1000000000:=rfl
@[go_sem] theorem Yuh:roomN 400=1000000000:=rfl
end Go.Abs
