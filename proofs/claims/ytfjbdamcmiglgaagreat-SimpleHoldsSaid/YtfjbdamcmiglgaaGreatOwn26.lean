/- Part 26 of my own framework and of the walks of functions: AcsA. -/
import Derived.Test.YtfjbdamcmiglgaaGreatOwn25
set_option linter.unusedVariables false
set_option linter.unusedSectionVars false
set_option linter.unusedSimpArgs false
namespace Go.dm
open Go
def fe (n:Nat) (l:List (Nat×ah)):List ah:=l.foldr (fun p t=>t.set p.1 p.2) (List.replicate n .undef)
theorem Bg {n:Nat}:fe n []=List.replicate n .undef:=rfl
theorem Bb {n i:Nat} {v:ah} {l:List (Nat×ah)}:fe n ((i,v) :: l)=(fe n l).set i v:=rfl
def m_ (P:Program) (lo:Ctx) (Q:ct→St→Prop) (k:List KI) (ops:Array Oper) (g:Option Bool) (o:Oper) (l:List Oper) (fs:List Fp) (tm:List ah) (σ:ai):Prop :=
 ∃ g',g=some g'∧(g'=false→iT P lo Q k ops l fs.tail (put tm o.dst gone) σ) ∧
   (g'=true→∃ r dA,ln P o.op tm (dM (fs.headD .no) σ) ((fs.headD .no).name σ) r dA∧fB (fs.headD .no).wr 0 dA (dM (fs.headD .no) σ) ∧
    iT P lo Q k ops l fs.tail (put tm o.dst r) (dX (fs.headD .no).wr 0 dA σ))
def fA (P:Program) (lo:Ctx) (Q:ct→St→Prop) (k:List KI) (ops:Array Oper) (f:Fp) (o:Oper) (l:List Oper) (fs:List Fp) (tm:List ah) (σ m:ai):Prop :=
 ∃ r dA,ln P o.op tm m (f.name σ) r dA∧fB f.wr 0 dA m∧iT P lo Q k ops l fs (put tm o.dst r) (dX f.wr 0 dA σ)
def eX (P:Program) (lo:Ctx) (Q:ct→St→Prop) (k:List KI) (ops:Array Oper) (wr:List Nat) (d:Option Tmp) (l:List Oper) (fs:List Fp) (tm:List ah) (σ m:ai) (x:Option (ah×ai)):Prop :=
 ∃ r dA,x=some (r,dA)∧fB wr 0 dA m∧iT P lo Q k ops l fs (put tm d r) (dX wr 0 dA σ)
section
variable {P:Program} {lo:Ctx} {Q:ct→St→Prop} {k:List KI} {ops:Array Oper} {o:Oper} {l:List Oper} {f:Fp} {fs:List Fp} {tm:List ah} {σ dA m:ai}
theorem ZT:iT P lo Q k ops [] fs tm σ=aG P lo Q k .normal ⟨tm,σ⟩:=by cases fs<;>rfl
theorem Yx3:iT P lo Q k ops (o :: l) (f :: fs) tm σ=m_ P lo Q k ops (mN ops tm o) o l (f :: fs) tm σ:=(Eq.refl _).trans rfl
theorem Ygm:iT P lo Q k ops (o :: l) [] tm σ=m_ P lo Q k ops (mN ops tm o) o l [] tm σ:=(Eq.refl _).trans rfl
theorem Yyi:m_ P lo Q k ops (some true) o l (f :: fs) tm σ=fA P lo Q k ops f o l fs tm σ (dM f σ):=by simp [m_,fA]
theorem Md (vis:Nat→Bool) (h:∀ b,vis b=true):∀ (σ:ai) (i:Nat),fg vis i σ = σ
 | [],_=>rfl
 | b :: r,i=>by simp [fg,h i,Md vis h r (i+1)]
theorem W1 {σ:ai}:dM Fp.no σ = σ:=Md _ (fun b=>by simp [Fp.no]) σ 0
theorem Yd0 {nm:Option Nat} {wr:List Nat} {σ:ai}:dM ⟨nm,wr,[]⟩ σ = σ:=Md _ (fun b=>by simp) σ 0
theorem Yg6:m_ P lo Q k ops (some true) o l [] tm σ=fA P lo Q k ops .no o l [] tm σ σ:=by simp [m_,fA,W1]
theorem Yuz:m_ P lo Q k ops (some false) o l fs tm σ=iT P lo Q k ops l fs.tail (put tm o.dst gone) σ:=by simp [m_]
theorem Yxk {g:Bool}:m_ P lo Q k ops (some g) o l fs tm σ=((g=true→m_ P lo Q k ops (some true) o l fs tm σ)∧(g=false→m_ P lo Q k ops (some false) o l fs tm σ)):=by cases g<;>simp [m_]
def tD (P:Program) (lo:Ctx) (Q:ct→St→Prop) (k:List KI) (ops:Array Oper) (wr:List Nat) (d:Option Tmp) (l:List Oper) (fs:List Fp) (tm:List ah) (σ m:ai) (f:ah) (args:List ah):Prop :=
 ∃ r dA,aq P f args m (fun r' σ'=>r'=r∧σ' = dA)∧fB wr 0 dA m∧iT P lo Q k ops l fs (put tm d r) (dX wr 0 dA σ)
theorem Yv2 {d:Option Tmp} {fo:Operand} {args:Array Operand} {ts:Array TypeId} {t:TypeId} {p:String} {a:Array Edge} {g:Option (Nat×Bool)} :
  fA P lo Q k ops f ⟨d, .call ⟨.value fo,args,ts⟩,t,p,a,g⟩ l fs tm σ m=tD P lo Q k ops f.wr d l fs tm σ m (ev tm fo) (args.toList.map (ev tm)):=(Eq.refl _).trans rfl
theorem A2 (wr:List Nat):∀ (σ:ai) (i:Nat),fB wr i σ σ
 | [],_=>trivial
 | _ :: r,i=>⟨.inr rfl,A2 wr r (i+1)⟩
theorem T1 {wr:List Nat} {i:Nat}:fB wr i σ σ=True:=eq_true (A2 wr σ i)
theorem LZ:∀ (a b:ai) (i:Nat),dX [] i a b=b
 | [],_,_=>by simp [dX]
 | _ :: _,[],_=>by simp [dX]
 | a :: cD,b :: bs,i=>by simp [dX,LZ cD bs (i+1)]
theorem Rp {wr:List Nat} {d:Option Tmp} {r:ah}:eX P lo Q k ops wr d l fs tm σ m (some (r,dA))=(fB wr 0 dA m∧iT P lo Q k ops l fs (put tm d r) (dX wr 0 dA σ)):=by
 simp only [eX,aH,bE];apply propext;constructor
 ·rintro ⟨r',σ',⟨rfl,rfl⟩,h⟩;exact h
 ·intro h;exact ⟨r,dA,⟨rfl,rfl⟩,h⟩
theorem You {d:Option Tmp} {r:ah}:eX P lo Q k ops [] d l fs tm σ m (some (r,m))=iT P lo Q k ops l fs (put tm d r) σ:=by
 rw [Rp,LZ,T1,true_and]
theorem NY {wr:List Nat} {d:Option Tmp}:eX P lo Q k ops wr d l fs tm σ m none=False:=by simp [eX]
theorem Zm {c:Prop} [Decidable c] {x:Option (ah×ai)} {wr:List Nat} {d:Option Tmp}:eX P lo Q k ops wr d l fs tm σ m (if c then x else none)=(c∧eX P lo Q k ops wr d l fs tm σ m x):=by
 by_cases h:c<;>simp [h,NY]
theorem YL {c:Prop} [Decidable c] {x:c→Option (ah×ai)} {wr:List Nat} {d:Option Tmp}:eX P lo Q k ops wr d l fs tm σ m (if h:c then x h else none) = ∃ h:c,eX P lo Q k ops wr d l fs tm σ m (x h):=by
 by_cases h:c<;>simp [h,NY]
theorem Ygu {nm:Option Nat} {wr hd:List Nat} {σ:ai}:dM ⟨nm,wr,hd⟩ σ=fg (fun b=>!hd.contains b) 0 σ:=rfl
theorem Yyd {vis:Nat→Bool} {i:Nat}:fg vis i []=[]:=rfl
theorem Ys4 {vis:Nat→Bool} {i:Nat} {b:Option bO} {σ:ai}:fg vis i (b :: σ)=(if vis i=true then b else none) :: fg vis (i+1) σ:=rfl
theorem Ywz {wr:List Nat} {i:Nat}:fB wr i [] []=True:=rfl
theorem Ys8 {wr:List Nat} {i:Nat} {a b:Option bO} {cD bs:ai}:fB wr i (a :: cD) (b :: bs)=((wr.contains i=true∨a=b)∧fB wr (i+1) cD bs):=rfl
theorem ZX {wr:List Nat} {i:Nat} {a:Option bO} {cD bs:ai}:fB wr i (a :: cD) (a :: bs)=fB wr (i+1) cD bs:=by simp [fB]
theorem Yyo {wr:List Nat} {i:Nat}:dX wr i [] []=[]:=rfl
theorem Yr2 {wr:List Nat} {i:Nat} {a b:Option bO} {cD bs:ai}:dX wr i (a :: cD) (b :: bs)=(if wr.contains i=true then a else b) :: dX wr (i+1) cD bs:=rfl
theorem Ysn {c:Nat} {wr hd:List Nat} {σ:ai}:Fp.name ⟨some c,wr,hd⟩ σ=c:=rfl
theorem Yvm {wr hd:List Nat} {σ:ai}:Fp.name ⟨none,wr,hd⟩ σ = σ.length:=rfl
theorem Ykc:Fp.no.wr=[]:=rfl
theorem Yby {σ:ai}:Fp.no.name σ = σ.length:=rfl
theorem kG {d:Option Tmp} {g:FuncId} {first captured args args':List ah} {r:ah} {wr:List Nat} (hc:aD P g args' r) (hp:lj (among []) m args' (first++args++captured)) (hl:bF 0 args')
  (h:iT P lo Q k ops l fs (put tm d r) (dX wr 0 m σ)):tD P lo Q k ops wr d l fs tm σ m (.fn g first captured) args :=
 ⟨r,m,aq.bS [] hc hp hl ⟨rfl,by rw [je];split<;>rfl⟩,A2 wr m 0,h⟩
end
section
variable {P:Program} {lo:Ctx} {Q:ct→St→Prop} {k:List KI} {ops:Array Oper} {l:List Oper} {f:Fp} {fs:List Fp} {tm:List ah} {σ m:ai} {d:Option Tmp} {tt:TypeId} {ps:String} {af:Array Edge} {gg:Option (Nat×Bool)}
theorem Yb3 {bi:Builtin} {args:Array Operand} {ts:Array TypeId}:fA P lo Q k ops f ⟨d, .call ⟨.builtin bi,args,ts⟩,tt,ps,af,gg⟩ l fs tm σ m=eX P lo Q k ops f.wr d l fs tm σ m (dt P m (f.name σ) (ev tm) (.call ⟨.builtin bi,args,ts⟩)):=(Eq.refl _).trans rfl
theorem Yqt {fu:FuncId} {a c:Array Operand}:fA P lo Q k ops f ⟨d, .makeFunc (.func fu) a c,tt,ps,af,gg⟩ l fs tm σ m=eX P lo Q k ops f.wr d l fs tm σ m (dt P m (f.name σ) (ev tm) (.makeFunc (.func fu) a c)):=(Eq.refl _).trans rfl
theorem Yrp {x:Operand}:fA P lo Q k ops f ⟨d, .move x,tt,ps,af,gg⟩ l fs tm σ m=eX P lo Q k ops f.wr d l fs tm σ m (dt P m (f.name σ) (ev tm) (.move x)):=(Eq.refl _).trans rfl
theorem Yjj {x:Operand}:fA P lo Q k ops f ⟨d, .assign x,tt,ps,af,gg⟩ l fs tm σ m=eX P lo Q k ops f.wr d l fs tm σ m (dt P m (f.name σ) (ev tm) (.assign x)):=(Eq.refl _).trans rfl
theorem Ys0 {x:Operand} {y:Operand} {z:Operand}:fA P lo Q k ops f ⟨d, .pick x y z,tt,ps,af,gg⟩ l fs tm σ m=eX P lo Q k ops f.wr d l fs tm σ m (dt P m (f.name σ) (ev tm) (.pick x y z)):=(Eq.refl _).trans rfl
theorem Ylp {t:TypeId}:fA P lo Q k ops f ⟨d, .alloc t,tt,ps,af,gg⟩ l fs tm σ m=eX P lo Q k ops f.wr d l fs tm σ m (dt P m (f.name σ) (ev tm) (.alloc t)):=(Eq.refl _).trans rfl
theorem Yya {t:TypeId} {x:Operand}:fA P lo Q k ops f ⟨d, .box t x,tt,ps,af,gg⟩ l fs tm σ m=eX P lo Q k ops f.wr d l fs tm σ m (dt P m (f.name σ) (ev tm) (.box t x)):=(Eq.refl _).trans rfl
theorem Yl6 {t:TypeId} {pp:Array (Nat×Operand)}:fA P lo Q k ops f ⟨d, .build t pp,tt,ps,af,gg⟩ l fs tm σ m=eX P lo Q k ops f.wr d l fs tm σ m (dt P m (f.name σ) (ev tm) (.build t pp)):=(Eq.refl _).trans rfl
theorem Zqk {t:TypeId} {q:Nat} {pp:Array (Nat×Operand)}:fA P lo Q k ops f ⟨d, .buildSlice t q pp,tt,ps,af,gg⟩ l fs tm σ m=eX P lo Q k ops f.wr d l fs tm σ m (dt P m (f.name σ) (ev tm) (.buildSlice t q pp)):=(Eq.refl _).trans rfl
theorem Yv3 {t:TypeId} {x:Operand}:fA P lo Q k ops f ⟨d, .load t x,tt,ps,af,gg⟩ l fs tm σ m=eX P lo Q k ops f.wr d l fs tm σ m (dt P m (f.name σ) (ev tm) (.load t x)):=(Eq.refl _).trans rfl
theorem Ylb {t:TypeId} {x:Operand} {y:Operand}:fA P lo Q k ops f ⟨d, .store t x y,tt,ps,af,gg⟩ l fs tm σ m=eX P lo Q k ops f.wr d l fs tm σ m (dt P m (f.name σ) (ev tm) (.store t x y)):=(Eq.refl _).trans rfl
theorem Zwi {x:Operand}:fA P lo Q k ops f ⟨d, .nilCheck x,tt,ps,af,gg⟩ l fs tm σ m=eX P lo Q k ops f.wr d l fs tm σ m (dt P m (f.name σ) (ev tm) (.nilCheck x)):=(Eq.refl _).trans rfl
theorem Yms {op:BinOp} {t:TypeId} {x:Operand} {y:Operand} {u:TypeId}:fA P lo Q k ops f ⟨d, .binOp op t x y u,tt,ps,af,gg⟩ l fs tm σ m=eX P lo Q k ops f.wr d l fs tm σ m (dt P m (f.name σ) (ev tm) (.binOp op t x y u)):=(Eq.refl _).trans rfl
theorem Ysh {uo:UnOp} {t:TypeId} {x:Operand}:fA P lo Q k ops f ⟨d, .unOp uo t x,tt,ps,af,gg⟩ l fs tm σ m=eX P lo Q k ops f.wr d l fs tm σ m (dt P m (f.name σ) (ev tm) (.unOp uo t x)):=(Eq.refl _).trans rfl
theorem Yb5 {t:TypeId} {u:TypeId} {x:Operand}:fA P lo Q k ops f ⟨d, .convert t u x,tt,ps,af,gg⟩ l fs tm σ m=eX P lo Q k ops f.wr d l fs tm σ m (dt P m (f.name σ) (ev tm) (.convert t u x)):=(Eq.refl _).trans rfl
theorem Zkb {t:TypeId} {x:Operand}:fA P lo Q k ops f ⟨d, .makeInterface t x,tt,ps,af,gg⟩ l fs tm σ m=eX P lo Q k ops f.wr d l fs tm σ m (dt P m (f.name σ) (ev tm) (.makeInterface t x)):=(Eq.refl _).trans rfl
theorem Yp6 {t:TypeId} {x:Operand} {ox:Option Operand} {oy:Option Operand} {oz:Option Operand}:fA P lo Q k ops f ⟨d, .slice t x ox oy oz,tt,ps,af,gg⟩ l fs tm σ m=eX P lo Q k ops f.wr d l fs tm σ m (dt P m (f.name σ) (ev tm) (.slice t x ox oy oz)):=(Eq.refl _).trans rfl
theorem Zsn {t:TypeId} {x:Operand} {q:Nat}:fA P lo Q k ops f ⟨d, .fieldAddr t x q,tt,ps,af,gg⟩ l fs tm σ m=eX P lo Q k ops f.wr d l fs tm σ m (dt P m (f.name σ) (ev tm) (.fieldAddr t x q)):=(Eq.refl _).trans rfl
theorem Ypd {t:TypeId} {x:Operand} {q:Nat}:fA P lo Q k ops f ⟨d, .field t x q,tt,ps,af,gg⟩ l fs tm σ m=eX P lo Q k ops f.wr d l fs tm σ m (dt P m (f.name σ) (ev tm) (.field t x q)):=(Eq.refl _).trans rfl
theorem Zus {t:TypeId} {x:Operand} {y:Operand}:fA P lo Q k ops f ⟨d, .indexAddr t x y,tt,ps,af,gg⟩ l fs tm σ m=eX P lo Q k ops f.wr d l fs tm σ m (dt P m (f.name σ) (ev tm) (.indexAddr t x y)):=(Eq.refl _).trans rfl
theorem Ylj {t:TypeId} {x:Operand} {y:Operand}:fA P lo Q k ops f ⟨d, .index t x y,tt,ps,af,gg⟩ l fs tm σ m=eX P lo Q k ops f.wr d l fs tm σ m (dt P m (f.name σ) (ev tm) (.index t x y)):=(Eq.refl _).trans rfl
theorem Yhw {t:TypeId} {x:Operand} {y:Operand} {b:Bool}:fA P lo Q k ops f ⟨d, .lookup t x y b,tt,ps,af,gg⟩ l fs tm σ m=eX P lo Q k ops f.wr d l fs tm σ m (dt P m (f.name σ) (ev tm) (.lookup t x y b)):=(Eq.refl _).trans rfl
theorem Zsb {t:TypeId} {x:Operand} {y:Operand} {z:Operand}:fA P lo Q k ops f ⟨d, .mapUpdate t x y z,tt,ps,af,gg⟩ l fs tm σ m=eX P lo Q k ops f.wr d l fs tm σ m (dt P m (f.name σ) (ev tm) (.mapUpdate t x y z)):=(Eq.refl _).trans rfl
theorem Yky {t:TypeId} {x:Operand}:fA P lo Q k ops f ⟨d, .range t x,tt,ps,af,gg⟩ l fs tm σ m=eX P lo Q k ops f.wr d l fs tm σ m (dt P m (f.name σ) (ev tm) (.range t x)):=(Eq.refl _).trans rfl
theorem Yqx {x:Operand} {b:Bool}:fA P lo Q k ops f ⟨d, .next x b,tt,ps,af,gg⟩ l fs tm σ m=eX P lo Q k ops f.wr d l fs tm σ m (dt P m (f.name σ) (ev tm) (.next x b)):=(Eq.refl _).trans rfl
theorem Zqg {x:Operand} {t:TypeId} {u:TypeId} {b:Bool}:fA P lo Q k ops f ⟨d, .typeAssert x t u b,tt,ps,af,gg⟩ l fs tm σ m=eX P lo Q k ops f.wr d l fs tm σ m (dt P m (f.name σ) (ev tm) (.typeAssert x t u b)):=(Eq.refl _).trans rfl
theorem Ycg {x:Operand} {q:Nat}:fA P lo Q k ops f ⟨d, .extract x q,tt,ps,af,gg⟩ l fs tm σ m=eX P lo Q k ops f.wr d l fs tm σ m (dt P m (f.name σ) (ev tm) (.extract x q)):=(Eq.refl _).trans rfl
theorem Zte {t:TypeId} {x:Operand} {y:Operand}:fA P lo Q k ops f ⟨d, .makeSlice t x y,tt,ps,af,gg⟩ l fs tm σ m=eX P lo Q k ops f.wr d l fs tm σ m (dt P m (f.name σ) (ev tm) (.makeSlice t x y)):=(Eq.refl _).trans rfl
theorem Ydk {t:TypeId} {ox:Option Operand}:fA P lo Q k ops f ⟨d, .makeMap t ox,tt,ps,af,gg⟩ l fs tm σ m=eX P lo Q k ops f.wr d l fs tm σ m (dt P m (f.name σ) (ev tm) (.makeMap t ox)):=(Eq.refl _).trans rfl
end
attribute [go_sem high] Yyi Yg6 Yuz Yv2 Yd0 W1 ZX T1 You
attribute [go_sem] Int.toNat_zero decide_eq_true_eq decide_eq_false_iff_not Bool.not_eq_true Bool.not_eq_false Decidable.not_not List.contains_cons List.contains_nil
attribute [go_sem] Bg Bb ZT Yx3 Ygm LZ NY Zm YL Yyd Ys4 Ywz Yyo Yr2 Ysn Yvm Ykc Yby Yb3 Yqt Yrp Yjj Ys0 Ylp Yya Yl6 Zqk Yv3 Ylb Zwi Yms Ysh Yb5 Zkb Yp6 Zsn Ypd Zus Ylj Yhw Zsb Yky Yqx Zqg Ycg Zte Ydk List.tail_cons List.tail_nil
attribute [go_sem low] Yxk Ygu Rp Ys8
end Go.dm
