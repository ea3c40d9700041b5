/- Part 19 of what the claim rests on. -/
import Derived.Test.YtfjbdamcmiglgaaGreatOwn18
set_option linter.all false
namespace Go.dq
open Go
section
variable {P:Program}{lo:Ctx}{Q:cB->St->Prop}{n:Nat}{k:List KI}{tm:List ah}{σ:av}{all:Array Oper}{l:List Oper}
theorem Yib {ι:Type}{I : ι->List ah}{S : ι->av}{μ : ι->Nat}{x : ι}{s:St}:yH P lo Q k I S μ x .normal s = ∃y,zp (I y) (S y) s/\μ y < μ x:=(Eq.refl _).trans rfl
theorem Yu8 {ι:Type}{I : ι->List ah}{S : ι->av}{μ : ι->Nat}{x : ι}{s:St}{i:Nat}:yH P lo Q k I S μ x (.exit i) s=aC P lo Q k (.exit i) s:=(Eq.refl _).trans rfl
theorem Yzb {ι:Type}{I : ι->List ah}{S : ι->av}{μ : ι->Nat}{x : ι}{s:St}:yH P lo Q k I S μ x .ret s=aC P lo Q k .ret s:=(Eq.refl _).trans rfl
theorem Yf2 {rs:List ResultVar}{K:ah->av->Prop}{s:St}:rL P rs K .normal s = ∃r,gP P s rs=some r/\K r s.σ:=(Eq.refl _).trans rfl
theorem Yws {rs:List ResultVar}{K:ah->av->Prop}{s:St}:rL P rs K .ret s = ∃r,gP P s rs=some r/\K r s.σ:=(Eq.refl _).trans rfl
theorem Yyt {r r0:ah}:J4 r r0 σ=pT (λ_=>true) σ r r0:=(Eq.refl _).trans rfl
theorem Yu9 {r:ResultVar}{tm:List ah}:gP P ⟨tm,σ⟩ [r]=sM tm σ P r:=by
 simp only[gP,oF,List.mapM_nil];cases sM tm σ P r<;>rfl
theorem Yoz {tm:List ah}:gP P ⟨tm,σ⟩ []=some (.dw []):=(Eq.refl _).trans rfl
theorem Yrj {r r':ResultVar} {rs:List ResultVar} {tm:List ah}:gP P ⟨tm,σ⟩ (r :: r' :: rs)=((r :: r' :: rs).mapM (sM tm σ P)).map .dw:=by
 simp only[gP,oF];cases sM tm σ P r with
 |none=>rfl
 |some a=>cases sM tm σ P r' with
  |none=>rfl
  |some b=>cases List.mapM (sM tm σ P) rs<;>rfl
theorem Ysf {t:Tmp}{tm:List ah}:sM tm σ P (.tmp t)=some (tm.getD t .undef):=(Eq.refl _).trans rfl
theorem Ykq {a:Tmp}{t:TypeId}{tm:List ah}:sM tm σ P (.cell a t)=(cC P t).bind λl=>jW σ l (tm.getD a .undef):=(Eq.refl _).trans rfl
theorem Yu0 {kC:List ah}{σ':av}:zp kC σ' ⟨tm,σ⟩=(nA kC tm/\ic σ' σ/\bG σ'.length kC/\bH σ'.length σ'):=(Eq.refl _).trans rfl
theorem Yop:nA [] []=True:=(Eq.refl _).trans rfl
theorem Ydd {b:ah}{cI bs:List ah}:nA (.undef :: cI) (b :: bs)=nA cI bs:=by simp[nA]
theorem Ydy {a:ah}{cI bs:List ah}:nA (a :: cI) (a :: bs)=nA cI bs:=by simp[nA]
theorem Yhn {a b:ah}{cI bs:List ah}:nA (a :: cI) (b :: bs)=((a=b\/a=.undef)/\nA cI bs):=(Eq.refl _).trans rfl
theorem Ylr:ic [] σ=True:=(Eq.refl _).trans rfl
theorem Yeh {a b:Option bS}{cI bs:av}:ic (a :: cI) (b :: bs)=((a=b\/a=none)/\ic cI bs):=(Eq.refl _).trans rfl
theorem XM {b:Option bS}{cI bs:av}:ic (none :: cI) (b :: bs)=ic cI bs:=by simp[ic]
theorem W1 {a:Option bS}{cI bs:av}:ic (a :: cI) (a :: bs)=ic cI bs:=by simp[ic]
theorem HX {n:Nat}:bH n []=True:=(Eq.refl _).trans rfl
theorem NR {n:Nat}:bH n (none :: σ)=bH n σ:=by simp[bH,ke]
theorem Ycm {n:Nat}{b:bS}:bH n (some b :: σ)=(b.low n/\bH n σ):=(Eq.refl _).trans rfl
theorem Yne {n:Nat}:bG n []=True:=(Eq.refl _).trans rfl
theorem Yim {n:Nat}{a:ah}{cI:List ah}:bG n (a :: cI)=(a.low n/\bG n cI):=(Eq.refl _).trans rfl
theorem Yj0 {n:Nat}:ah.low n .undef=True:=(Eq.refl _).trans rfl
theorem Yld {n:Nat}{b:Bool}:ah.low n (.bool b)=True:=(Eq.refl _).trans rfl
theorem Yr1 {n:Nat}{k:IntKind}{i:Int}:ah.low n (.int k i)=True:=(Eq.refl _).trans rfl
theorem Yqx {n:Nat}{s:ByteArray}:ah.low n (.str s)=True:=(Eq.refl _).trans rfl
theorem Yoi {n:Nat}:ah.low n .a8=True:=(Eq.refl _).trans rfl
theorem Ybf {n:Nat}:ah.low n .dj=True:=(Eq.refl _).trans rfl
theorem Ytt {n b o:Nat}:ah.low n (.ptr b o)=(b<n):=(Eq.refl _).trans rfl
theorem Xa1 {n b i f:Nat}:ah.low n (.rp b i f)=(b<n):=(Eq.refl _).trans rfl
theorem Yvq {n b o m s:Nat}:ah.low n (.os b o m s)=(b<n):=(Eq.refl _).trans rfl
theorem Yvr {n b o m c s:Nat}:ah.low n (.oc b o m c s)=(b<n):=(Eq.refl _).trans rfl
theorem Yv5 {n b:Nat}:ah.low n (.ni b)=(b<n):=(Eq.refl _).trans rfl
theorem Ys8 {n b:Nat}:ah.low n (.map b)=(b<n):=(Eq.refl _).trans rfl
theorem Yvy {n b:Nat}:ah.low n (.it b)=(b<n):=(Eq.refl _).trans rfl
theorem Xa2 {n:Nat}{cs:List ah}:ah.low n (.pp cs)=bG n cs:=(Eq.refl _).trans rfl
theorem Yz1 {n s:Nat}{cs:List ah}:ah.low n (.ps s cs)=bG n cs:=(Eq.refl _).trans rfl
theorem Yv7 {n:Nat}{cs:List ah}:ah.low n (.agg cs)=bG n cs:=(Eq.refl _).trans rfl
theorem Yqs {n:Nat}{cs:List ah}:ah.low n (.dw cs)=bG n cs:=(Eq.refl _).trans rfl
theorem Yxu {n:Nat}{f:FuncId}{a c:List ah}:ah.low n (.fn f a c)=(bG n a/\bG n c):=(Eq.refl _).trans rfl
theorem Yx4 {n:Nat}{a c:List ah}:ah.low n (.pm a c)=(bG n a/\bG n c):=(Eq.refl _).trans rfl
theorem Yxm {n:Nat}{cs:List ah}:bS.low n (.var cs)=bG n cs:=(Eq.refl _).trans rfl
theorem Yzp {n fz:Nat}{cs:List ah}:bS.low n (.row cs fz)=bG n cs:=(Eq.refl _).trans rfl
theorem Ywd {n:Nat}{a c:List ah}{f:Bool}:bS.low n (.map a c f)=(bG n a/\bG n c):=(Eq.refl _).trans rfl
theorem Yzx {n:Nat}{ks vs:List ah}{s:List Nat}:bS.low n (.mC ks vs s)=(bG n ks/\bG n vs):=(Eq.refl _).trans rfl
theorem Ub {F:Nat->Bool}:mD F σ [] []=True:=by simp[mD]
theorem yW {F:Nat->Bool}{t a:ah}{ts cI:List ah}:mD F σ (t :: ts) (a :: cI)=(pT F σ t a/\mD F σ ts cI):=by simp[mD]
theorem Yl2 {F:Nat->Bool}{ts:List ah}:mD F σ ts ts=True:=eq_true (bL F σ ts)
theorem Yrx {F:Nat->Bool}{t:ah}:pT F σ t t=True:=eq_true (nH F σ t)
theorem Yzz {F:Nat->Bool}{cs pD:List ah}:pT F σ (.agg pD) (.agg cs)=mD F σ pD cs:=by simp[pT]
theorem Yzu {F:Nat->Bool}{cs pD:List ah}:pT F σ (.dw pD) (.dw cs)=mD F σ pD cs:=by simp[pT]
theorem Yrn {F:Nat->Bool}{s:Nat}{ts:List ah}:pT F σ (.ps s ts) .a8=(ts=[]):=by simp[pT]
theorem Xbk {F:Nat->Bool}{s s':Nat}{ts es:List ah}:pT F σ (.ps s ts) (.ps s' es)=(s'=s/\mD F σ ts es):=by simp[pT]
def Br (F:Nat->Bool)(σ:av)(ts:List ah)(off n:Nat):Option bS->Prop
 |some (.row es _)=>off+n<=es.length/\mD F σ ts ((es.drop off).take n)
 |_=>False
theorem Ve {F:Nat->Bool}{s s' b off n:Nat}{ts:List ah}:pT F σ (.ps s ts) (.os b off n s')=(s'=s/\F b=true/\Br F σ ts off n (bW σ b)):=by
 simp only[pT,Br];cases bW σ b with|none=>rfl|some x=>cases x<;>rfl
theorem WZ {F:Nat->Bool}{ts es:List ah}{off n fz:Nat}:Br F σ ts off n (some (.row es fz))=(off+n<=es.length/\mD F σ ts ((es.drop off).take n)):=(Eq.refl _).trans rfl
def Bq (F:Nat->Bool)(σ:av)(a b:List ah):Option bS->Prop
 |some (.map ks vs _)=>mD F σ a ks/\mD F σ b vs
 |_=>False
theorem Ywn {F:Nat->Bool}{a b:List ah}{m:Nat}:pT F σ (.pm a b) (.map m)=(F m=true/\Bq F σ a b (bW σ m)):=by
 simp only[pT,Bq];cases bW σ m with|none=>rfl|some x=>cases x<;>rfl
theorem Ycp {F:Nat->Bool}{a b ks vs:List ah}{f:Bool}:Bq F σ a b (some (.map ks vs f))=(mD F σ a ks/\mD F σ b vs):=(Eq.refl _).trans rfl
theorem Ysx {F:Nat->Bool}{b:Bool}{a:ah}:pT F σ (.bool b) a=(a=.bool b):=by simp[pT]
theorem Yyv {F:Nat->Bool}{k:IntKind}{i:Int}{a:ah}:pT F σ (.int k i) a=(a=.int k i):=by simp[pT]
theorem Yze {F:Nat->Bool}{i:Nat}:fw F i []=[]:=(Eq.refl _).trans rfl
theorem Yvg {F:Nat->Bool}{i:Nat}{b:Option bS}{σ:av}:fw F i (b :: σ)=(if F i=true then iW b else b):: fw F (i+1) σ:=(Eq.refl _).trans rfl
theorem Yzv {es:List ah}{fz:Nat}:iW (some (.row es fz))=some (.row es (max fz es.length)):=(Eq.refl _).trans rfl
theorem lb {b:Nat}:among [] b=false:=(Eq.refl _).trans rfl
theorem k_ {a b:Nat}{bs:List Nat}:among (a :: bs) b=(a==b||among bs b):=by simp[among]
end
section
variable {P:Program}{lo:Ctx}{Q:cB->St->Prop}{n:Nat}{k:List KI}{tm:List ah}{σ:av}{all:Array Oper}{l:List Oper}{d:Option Tmp}{tt:TypeId}{ps:String}{af:Array Edge}{gg:Option (Nat×Bool)}
theorem Ycs {bi:Builtin}{args:Array Operand}{ts:Array TypeId}:pb P lo Q (n+1) ⟨d,.call ⟨.builtin bi,args,ts⟩,tt,ps,af,gg⟩ all l k tm σ=oO P lo Q n (dJ P σ σ.length (ev tm) (.call ⟨.builtin bi,args,ts⟩)) d all l k tm:=(Eq.refl _).trans rfl
theorem Ysk {f:FuncId}{a c:Array Operand}:pb P lo Q (n+1) ⟨d,.makeFunc (.func f) a c,tt,ps,af,gg⟩ all l k tm σ=oO P lo Q n (dJ P σ σ.length (ev tm) (.makeFunc (.func f) a c)) d all l k tm:=(Eq.refl _).trans rfl
theorem Yr2 {x:Operand}:pb P lo Q (n+1) ⟨d,.move x,tt,ps,af,gg⟩ all l k tm σ=oO P lo Q n (dJ P σ σ.length (ev tm) (.move x)) d all l k tm:=(Eq.refl _).trans rfl
theorem Ye2 {x:Operand}:pb P lo Q (n+1) ⟨d,.assign x,tt,ps,af,gg⟩ all l k tm σ=oO P lo Q n (dJ P σ σ.length (ev tm) (.assign x)) d all l k tm:=(Eq.refl _).trans rfl
theorem Ytd {x:Operand}{y:Operand}{z:Operand}:pb P lo Q (n+1) ⟨d,.pick x y z,tt,ps,af,gg⟩ all l k tm σ=oO P lo Q n (dJ P σ σ.length (ev tm) (.pick x y z)) d all l k tm:=(Eq.refl _).trans rfl
theorem Yn1 {t:TypeId}:pb P lo Q (n+1) ⟨d,.alloc t,tt,ps,af,gg⟩ all l k tm σ=oO P lo Q n (dJ P σ σ.length (ev tm) (.alloc t)) d all l k tm:=(Eq.refl _).trans rfl
theorem Yzt {t:TypeId}{x:Operand}:pb P lo Q (n+1) ⟨d,.box t x,tt,ps,af,gg⟩ all l k tm σ=oO P lo Q n (dJ P σ σ.length (ev tm) (.box t x)) d all l k tm:=(Eq.refl _).trans rfl
theorem Yor {t:TypeId}{pp:Array (Nat×Operand)}:pb P lo Q (n+1) ⟨d,.build t pp,tt,ps,af,gg⟩ all l k tm σ=oO P lo Q n (dJ P σ σ.length (ev tm) (.build t pp)) d all l k tm:=(Eq.refl _).trans rfl
theorem Zq8 {t:TypeId}{m:Nat}{pp:Array (Nat×Operand)}:pb P lo Q (n+1) ⟨d,.buildSlice t m pp,tt,ps,af,gg⟩ all l k tm σ=oO P lo Q n (dJ P σ σ.length (ev tm) (.buildSlice t m pp)) d all l k tm:=(Eq.refl _).trans rfl
theorem Ys7 {t:TypeId}{x:Operand}:pb P lo Q (n+1) ⟨d,.load t x,tt,ps,af,gg⟩ all l k tm σ=oO P lo Q n (dJ P σ σ.length (ev tm) (.load t x)) d all l k tm:=(Eq.refl _).trans rfl
theorem Ypn {t:TypeId}{x:Operand}{y:Operand}:pb P lo Q (n+1) ⟨d,.store t x y,tt,ps,af,gg⟩ all l k tm σ=oO P lo Q n (dJ P σ σ.length (ev tm) (.store t x y)) d all l k tm:=(Eq.refl _).trans rfl
theorem Zw1 {x:Operand}:pb P lo Q (n+1) ⟨d,.nilCheck x,tt,ps,af,gg⟩ all l k tm σ=oO P lo Q n (dJ P σ σ.length (ev tm) (.nilCheck x)) d all l k tm:=(Eq.refl _).trans rfl
theorem Ykv {op:BinOp}{t:TypeId}{x:Operand}{y:Operand}{u:TypeId}:pb P lo Q (n+1) ⟨d,.binOp op t x y u,tt,ps,af,gg⟩ all l k tm σ=oO P lo Q n (dJ P σ σ.length (ev tm) (.binOp op t x y u)) d all l k tm:=(Eq.refl _).trans rfl
theorem Ysm {uo:UnOp}{t:TypeId}{x:Operand}:pb P lo Q (n+1) ⟨d,.unOp uo t x,tt,ps,af,gg⟩ all l k tm σ=oO P lo Q n (dJ P σ σ.length (ev tm) (.unOp uo t x)) d all l k tm:=(Eq.refl _).trans rfl
theorem Zkt {t:TypeId}{x:Operand}:pb P lo Q (n+1) ⟨d,.makeInterface t x,tt,ps,af,gg⟩ all l k tm σ=oO P lo Q n (dJ P σ σ.length (ev tm) (.makeInterface t x)) d all l k tm:=(Eq.refl _).trans rfl
theorem Ymd {t:TypeId}{x:Operand}{ox:Option Operand}{oy:Option Operand}{oz:Option Operand}:pb P lo Q (n+1) ⟨d,.slice t x ox oy oz,tt,ps,af,gg⟩ all l k tm σ=oO P lo Q n (dJ P σ σ.length (ev tm) (.slice t x ox oy oz)) d all l k tm:=(Eq.refl _).trans rfl
theorem Ztc {t:TypeId}{x:Operand}{m:Nat}:pb P lo Q (n+1) ⟨d,.fieldAddr t x m,tt,ps,af,gg⟩ all l k tm σ=oO P lo Q n (dJ P σ σ.length (ev tm) (.fieldAddr t x m)) d all l k tm:=(Eq.refl _).trans rfl
theorem Ylg {t:TypeId}{x:Operand}{m:Nat}:pb P lo Q (n+1) ⟨d,.field t x m,tt,ps,af,gg⟩ all l k tm σ=oO P lo Q n (dJ P σ σ.length (ev tm) (.field t x m)) d all l k tm:=(Eq.refl _).trans rfl
theorem Zrs {t:TypeId}{x:Operand}{y:Operand}:pb P lo Q (n+1) ⟨d,.indexAddr t x y,tt,ps,af,gg⟩ all l k tm σ=oO P lo Q n (dJ P σ σ.length (ev tm) (.indexAddr t x y)) d all l k tm:=(Eq.refl _).trans rfl
theorem Yeg {t:TypeId}{x:Operand}{y:Operand}{b:Bool}:pb P lo Q (n+1) ⟨d,.lookup t x y b,tt,ps,af,gg⟩ all l k tm σ=oO P lo Q n (dJ P σ σ.length (ev tm) (.lookup t x y b)) d all l k tm:=(Eq.refl _).trans rfl
theorem Zto {t:TypeId}{x:Operand}{y:Operand}{z:Operand}:pb P lo Q (n+1) ⟨d,.mapUpdate t x y z,tt,ps,af,gg⟩ all l k tm σ=oO P lo Q n (dJ P σ σ.length (ev tm) (.mapUpdate t x y z)) d all l k tm:=(Eq.refl _).trans rfl
theorem Ypt {t:TypeId}{x:Operand}:pb P lo Q (n+1) ⟨d,.range t x,tt,ps,af,gg⟩ all l k tm σ=oO P lo Q n (dJ P σ σ.length (ev tm) (.range t x)) d all l k tm:=(Eq.refl _).trans rfl
theorem Ypc {x:Operand}:pb P lo Q (n+1) ⟨d,.entry x,tt,ps,af,gg⟩ all l k tm σ=oO P lo Q n (dJ P σ σ.length (ev tm) (.entry x)) d all l k tm:=(Eq.refl _).trans rfl
theorem Yob {x:Operand}:pb P lo Q (n+1) ⟨d,.next x false,tt,ps,af,gg⟩ all l k tm σ=nextQ (ev tm x) σ λr σ'=>aC P lo Q (.ops all l :: k) .normal ⟨put tm d r,σ'⟩:=(Eq.refl _).trans rfl
theorem Zr7 {x:Operand}{t:TypeId}{u:TypeId}{b:Bool}:pb P lo Q (n+1) ⟨d,.typeAssert x t u b,tt,ps,af,gg⟩ all l k tm σ=oO P lo Q n (dJ P σ σ.length (ev tm) (.typeAssert x t u b)) d all l k tm:=(Eq.refl _).trans rfl
theorem Ydg {x:Operand}{m:Nat}:pb P lo Q (n+1) ⟨d,.extract x m,tt,ps,af,gg⟩ all l k tm σ=oO P lo Q n (dJ P σ σ.length (ev tm) (.extract x m)) d all l k tm:=(Eq.refl _).trans rfl
theorem Zva {t:TypeId}{x:Operand}{y:Operand}:pb P lo Q (n+1) ⟨d,.makeSlice t x y,tt,ps,af,gg⟩ all l k tm σ=oO P lo Q n (dJ P σ σ.length (ev tm) (.makeSlice t x y)) d all l k tm:=(Eq.refl _).trans rfl
theorem Ycc {t:TypeId}{ox:Option Operand}:pb P lo Q (n+1) ⟨d,.makeMap t ox,tt,ps,af,gg⟩ all l k tm σ=oO P lo Q n (dJ P σ σ.length (ev tm) (.makeMap t ox)) d all l k tm:=(Eq.refl _).trans rfl
end
attribute [go_sem] Ycs Ysk Yr2 Ye2 Ytd Yn1 Yzt Yor Zq8 Ys7 Ypn Zw1 Ykv Ysm Zkt Ymd Ztc Ylg Zrs Yeg Zto Ypt Yob Ypc Zr7 Ydg Zva Ycc
theorem Yrw {b:Bool}:Hd true (some (.bool b))=some b:=by cases b<;>rfl
theorem Yvx {b:Bool}:Hd false (some (.bool b))=some (!b):=by cases b<;>rfl
theorem Yuh {x y:ah}:tW (.bool true) x y=some x:=by cases x<;>cases y<;>rfl
theorem Yos {x y:ah}:tW (.bool false) x y=some y:=by cases x<;>cases y<;>rfl
attribute [go_sem high] Yrw Yvx Yuh Yos
attribute [go_sem high] Yyg Yuf Yzf Yse Ydd Ydy W1 XM Yzc Yrx Yl2
attribute [go_sem] Zy Xc6 Yxt Xbm Yzs Yuk Yph Yzr Xa6 Xbn Yu2 Yuo Ywa Zvt Zw4 Yc7 Yea Ycd Zvb Yil Yc8 Yh4 Yc3 Yzq UK MV Zx5 Ybh Ymh Yl4 Ynv Ymq Xa7 Yl5 Ytg Ytn Ywj Yzh Ys6 Yfb Ylm Ym7 Ymu Ye0 YC Ycg Ygk Yfz Ycb Yks Ym9 Ylp Yij Yp6 Yp1 Ygh Yp4 Yoa Yg3 Yt3 Yvh Yrp Ypo Yve Yr0 Yrq Ykx Yzm Yyx Ypq Yh8 Yha Zr5 Ygy Yhx Ypk Yu6 Yu1 Yiu Zxz Yn9 Yl6 Yjw Ylb Yb9 Zul Zvy Ztq Ydk Zro Yn8 Yia Yo3 Ypb Yhz Ygt Xc7 Xca Yxw Yry Yrk Ylq Ysv Yy5 Yw8 Yvw Yya Yzl Yxs Yyn Yx1 Yxb Yrt Ytw Ype Ykr Ybj Ytp Ybe Zxe Xat Xa4 Ysr PL Yn2 Ywu Ywi Ytb Yxx Yln Ywm Ys1 Yig Xb7 Xc3 Ydc Yym Zy Yoo Ydj Yko Yhj Ycz Ybb Pb M9 NH Yxc Yxq Yso Xbv Xb5 Ysz Yt2 Yqw Yr3 Yqy Yfl Yml Ymz Ygx Yc6 Yrv Ylz Ywq Yyc Ywf Ymk Xax Ywg Yla Yxk Yy0 Ylw Yyw Yoq Xa3 Yrb Xaw Ytq Zsk Yxe Ys9 Xbq Yxl Xbu Xbd Xc9 Qu Yuc Yl1 Xa0 Xc1 Zwl Ysp Zwc Yt5 Zw2 Yls Zwh Yqt Yef Yrf Xbh Ynq Yp5 Yem Ywz Yju Yf5 Yib Yu8 Yzb Xbx Yw0 Yr8 Yzg Yvk Yf2 Yws Yyt Yu9 Yoz Yrj Ysf Ykq Yu0 Yop Ylr HX NR Ycm Yne Yim Yj0 Yld Yr1 Yqx Yoi Ybf Ytt Xa1 Yvq Yv5 Ys8 Yvy Xa2 Yz1 Yv7 Yqs Yxu Yx4 Yxm Yzp Ywd Yzx Ub yW Yzz Yzu Yrn Xbk Ve WZ Ywn Ycp Ysx Yyv Yze Yvg Yzv lb k_ eW
attribute [go_sem] Option.bind_some Option.map_some Option.bind_none Option.map_none Option.join_some List.getD_cons_zero List.getD_cons_succ List.set_cons_zero List.set_cons_succ List.length_cons List.length_nil List.all_cons List.all_nil Bool.and_true Bool.true_and Bool.and_false Bool.false_and Bool.or_true Bool.or_false Bool.false_or Bool.true_or and_self if_true if_false Bool.false_eq_true Bool.true_eq_false true_implies false_implies and_true true_and and_false false_and forall_const reduceCtorEq List.nil_append List.replicate_zero List.replicate_succ List.cons_append Nat.lt_irrefl List.getElem?_cons_zero List.getElem?_cons_succ List.getElem?_nil Option.getD_some Option.getD_none List.drop_zero List.drop_succ_cons List.head?_cons ne_eq not_false_eq_true not_true_eq_false List.take_succ_cons List.take_zero List.map_cons List.map_nil List.mapM_cons List.mapM_nil Option.pure_def Option.bind_eq_bind Option.some.injEq exists_eq_left' exists_eq_left or_true true_or or_false false_or beq_self_eq_true decide_true decide_false Bool.not_true Bool.not_false Option.isSome_some Option.isSome_none Option.map_map Nat.zero_add Nat.add_zero
attribute [go_sem] Xbe Ywc Yyj Yyi Yk4 Yv4 Xbf Yvz Yxp Ymp Xc2
attribute [go_sem] Yvr Xaz Yvp Xb6 Yn3 Yy7 Ybp Ye7 Yth Ykt Ydp Yr4 Ybw Yss Yu4 Xay Xas Yct Yvl Zsc Xbl Yvm Ymx Ynt
attribute [go_sem low] Yhn Yeh Yxd Yxj
@[go_sem]theorem Xba:dc 0=6000000000000:=rfl
@[go_sem]theorem Xby:dc 1=6000000000000:=rfl
@[go_sem]theorem Xbj:dc 2=6000000000000:=rfl
@[go_sem]theorem Xav:dc 4=6000000000000:=rfl
@[go_sem]theorem Xc4:dc 8=6000000000000:=rfl
@[go_sem]theorem Xag:dc 16=6000000000000:=rfl
@[go_sem]theorem Xac:dc 24=6000000000000:=rfl
@[go_sem]theorem Xar:dc 32=6000000000000:=rfl
@[go_sem]theorem Xak:dc 40=1000000000:=rfl
@[go_sem]theorem Xao:dc 48=1000000000:=rfl
@[go_sem]theorem Xap:dc 56=1000000000:=rfl
@[go_sem]theorem Xaj:dc 64=1000000000:=rfl
@[go_sem]theorem Xad:dc 72=1000000000:=rfl
@[go_sem]theorem Xal:dc 80=1000000000:=rfl
@[go_sem]theorem Xa9:dc 88=1000000000:=rfl
@[go_sem]theorem Xae:dc 96=1000000000:=rfl
@[go_sem]theorem Yxf:dc 104=1000000000:=rfl
@[go_sem]theorem Yyz:dc 112=1000000000:=rfl
@[go_sem]theorem Yyf:dc 120=1000000000:=rfl
@[go_sem]theorem Yvj:dc 128=1000000000:=rfl
@[go_sem]theorem Ywo:dc 136=1000000000:=rfl
@[go_sem]theorem Yyd:dc 144=1000000000:=rfl
@[go_sem]theorem Yxo:dc 152=1000000000:=rfl
@[go_sem]theorem Yy3:dc 160=1000000000:=rfl
@[go_sem]theorem Yyk:dc 168=1000000000:=rfl
@[go_sem]theorem Yz8:dc 176=1000000000:=rfl
@[go_sem]theorem Yzd:dc 184=1000000000:=rfl
@[go_sem]theorem Xa5:dc 192=1000000000:=rfl
@[go_sem]theorem Yw6:dc 200=1000000000:=rfl
@[go_sem]theorem Yyo:dc 208=1000000000:=rfl
@[go_sem]theorem Yw5:dc 216=1000000000:=rfl
@[go_sem]theorem Yvo:dc 224=1000000000:=rfl
@[go_sem]theorem Ywp:dc 232=1000000000:=rfl
@[go_sem]theorem Yzy:dc 240=1000000000:=rfl
@[go_sem]theorem Yxv:dc 248=1000000000:=rfl
@[go_sem]theorem Yy4:dc 256=1000000000:=rfl
@[go_sem]theorem Yy6:dc 264=1000000000:=rfl
@[go_sem]theorem Yw1:dc 272=1000000000:=rfl
@[go_sem]theorem Yzw:dc 280=1000000000:=rfl
@[go_sem]theorem Yxy:dc 288=1000000000:=rfl
@[go_sem]theorem Yz5:dc 296=1000000000:=rfl
@[go_sem]theorem Yyh:dc 304=1000000000:=rfl
@[go_sem]theorem Yw9:dc 312=1000000000:=rfl
@[go_sem]theorem Ywb:dc 320=1000000000:=rfl
@[go_sem]theorem Yz4:dc 328=1000000000:=rfl
@[go_sem]theorem Yyq:dc 336=1000000000:=rfl
@[go_sem]theorem Yw2:dc 344=1000000000:=rfl
@[go_sem]theorem Yzn:dc 352=1000000000:=rfl
@[go_sem]theorem Yy9:dc 360=1000000000:=rfl
@[go_sem]theorem Yyy:dc 368=1000000000:=rfl
@[go_sem]theorem Yyr:dc 376=1000000000:=rfl
@[go_sem]theorem Yyl:dc 384=1000000000:=rfl
@[go_sem]theorem Yz0:dc 392=1000000000:=rfl
@[go_sem]theorem Yx3:dc 400=1000000000:=rfl
end Go.dq
