/- Part 26 of my own framework and of the walks of functions: AcsA. -/
import Derived.Test.YtfjbdamcmiglgaaGreatOwn25
set_option linter.unusedVariables false
set_option linter.unusedSectionVars false
set_option linter.unusedSimpArgs false
namespace Go.c8
open Go
def fG (n:Nat) (l:List (Nat×ae)):List ae:=l.foldr (fun p t=>t.set p.1 p.2) (List.replicate n .undef)
theorem zT {n:Nat}:fG n []=List.replicate n .undef:=rfl
theorem zP {n i:Nat} {v:ae} {l:List (Nat×ae)}:fG n ((i,v) :: l)=(fG n l).set i v:=rfl
def my (P:Program) (lo:Ctx) (Q:b9→St→Prop) (k:List KI) (ops:Array Oper) (g:Option Bool) (o:Oper) (l:List Oper) (fs:List Fp) (tm:List ae) (σ:ai):Prop :=
 ∃ g',g=some g'∧(g'=false→im P lo Q k ops l fs.tail (put tm o.dst gone) σ) ∧
   (g'=true→∃ r dg,kE P o.op tm (dv (fs.headD .no) σ) ((fs.headD .no).name σ) r dg∧eT (fs.headD .no).wr 0 dg (dv (fs.headD .no) σ) ∧
    im P lo Q k ops l fs.tail (put tm o.dst r) (dB (fs.headD .no).wr 0 dg σ))
def eR (P:Program) (lo:Ctx) (Q:b9→St→Prop) (k:List KI) (ops:Array Oper) (f:Fp) (o:Oper) (l:List Oper) (fs:List Fp) (tm:List ae) (σ m:ai):Prop :=
 ∃ r dg,kE P o.op tm m (f.name σ) r dg∧eT f.wr 0 dg m∧im P lo Q k ops l fs (put tm o.dst r) (dB f.wr 0 dg σ)
def eh (P:Program) (lo:Ctx) (Q:b9→St→Prop) (k:List KI) (ops:Array Oper) (wr:List Nat) (d:Option Tmp) (l:List Oper) (fs:List Fp) (tm:List ae) (σ m:ai) (x:Option (ae×ai)):Prop :=
 ∃ r dg,x=some (r,dg)∧eT wr 0 dg m∧im P lo Q k ops l fs (put tm d r) (dB wr 0 dg σ)
section
variable {P:Program} {lo:Ctx} {Q:b9→St→Prop} {k:List KI} {ops:Array Oper} {o:Oper} {l:List Oper} {f:Fp} {fs:List Fp} {tm:List ae} {σ dg m:ai}
theorem Yz9:im P lo Q k ops [] fs tm σ=aK P lo Q k .normal ⟨tm,σ⟩:=by cases fs<;>rfl
theorem Ytk:im P lo Q k ops (o :: l) (f :: fs) tm σ=my P lo Q k ops (mc ops tm o) o l (f :: fs) tm σ:=(Eq.refl _).trans rfl
theorem Ys:im P lo Q k ops (o :: l) [] tm σ=my P lo Q k ops (mc ops tm o) o l [] tm σ:=(Eq.refl _).trans rfl
theorem Yw7:my P lo Q k ops (some true) o l (f :: fs) tm σ=eR P lo Q k ops f o l fs tm σ (dv f σ):=by simp [my,eR]
theorem Ke (vis:Nat→Bool) (h:∀ b,vis b=true):∀ (σ:ai) (i:Nat),eB vis i σ = σ
 | [],_=>rfl
 | b :: r,i=>by simp [eB,h i,Ke vis h r (i+1)]
theorem Up {σ:ai}:dv Fp.no σ = σ:=Ke _ (fun b=>by simp [Fp.no]) σ 0
theorem Wy {nm:Option Nat} {wr:List Nat} {σ:ai}:dv ⟨nm,wr,[]⟩ σ = σ:=Ke _ (fun b=>by simp) σ 0
theorem Xh:my P lo Q k ops (some true) o l [] tm σ=eR P lo Q k ops .no o l [] tm σ σ:=by simp [my,eR,Up]
theorem Yny:my P lo Q k ops (some false) o l fs tm σ=im P lo Q k ops l fs.tail (put tm o.dst gone) σ:=by simp [my]
theorem Ywn {g:Bool}:my P lo Q k ops (some g) o l fs tm σ=((g=true→my P lo Q k ops (some true) o l fs tm σ)∧(g=false→my P lo Q k ops (some false) o l fs tm σ)):=by cases g<;>simp [my]
def rS (P:Program) (lo:Ctx) (Q:b9→St→Prop) (k:List KI) (ops:Array Oper) (wr:List Nat) (d:Option Tmp) (l:List Oper) (fs:List Fp) (tm:List ae) (σ m:ai) (f:ae) (args:List ae):Prop :=
 ∃ r dg,aq P f args m (fun r' σ'=>r'=r∧σ' = dg)∧eT wr 0 dg m∧im P lo Q k ops l fs (put tm d r) (dB wr 0 dg σ)
theorem Yr7 {d:Option Tmp} {fo:Operand} {args:Array Operand} {ts:Array TypeId} {t:TypeId} {p:String} {a:Array Edge} {g:Option (Nat×Bool)} :
  eR P lo Q k ops f ⟨d, .call ⟨.value fo,args,ts⟩,t,p,a,g⟩ l fs tm σ m=rS P lo Q k ops f.wr d l fs tm σ m (ev tm fo) (args.toList.map (ev tm)):=(Eq.refl _).trans rfl
theorem zC (wr:List Nat):∀ (σ:ai) (i:Nat),eT wr i σ σ
 | [],_=>trivial
 | _ :: r,i=>⟨.inr rfl,zC wr r (i+1)⟩
theorem QV {wr:List Nat} {i:Nat}:eT wr i σ σ=True:=eq_true (zC wr σ i)
theorem Kg:∀ (a b:ai) (i:Nat),dB [] i a b=b
 | [],_,_=>by simp [dB]
 | _ :: _,[],_=>by simp [dB]
 | a :: cj,b :: bs,i=>by simp [dB,Kg cj bs (i+1)]
theorem Oa {wr:List Nat} {d:Option Tmp} {r:ae}:eh P lo Q k ops wr d l fs tm σ m (some (r,dg))=(eT wr 0 dg m∧im P lo Q k ops l fs (put tm d r) (dB wr 0 dg σ)):=by
 simp only [eh,aG,bw]
 apply propext
 constructor
 ·rintro ⟨r',σ',⟨rfl,rfl⟩,h⟩;exact h
 ·intro h;exact ⟨r,dg,⟨rfl,rfl⟩,h⟩
theorem Yjv {d:Option Tmp} {r:ae}:eh P lo Q k ops [] d l fs tm σ m (some (r,m))=im P lo Q k ops l fs (put tm d r) σ:=by
 rw [Oa,Kg,QV,true_and]
theorem Lz {wr:List Nat} {d:Option Tmp}:eh P lo Q k ops wr d l fs tm σ m none=False:=by simp [eh]
theorem Yzz {c:Prop} [Decidable c] {x:Option (ae×ai)} {wr:List Nat} {d:Option Tmp}:eh P lo Q k ops wr d l fs tm σ m (if c then x else none)=(c∧eh P lo Q k ops wr d l fs tm σ m x):=by
 by_cases h:c<;>simp [h,Lz]
theorem Yw3 {c:Prop} [Decidable c] {x:c→Option (ae×ai)} {wr:List Nat} {d:Option Tmp}:eh P lo Q k ops wr d l fs tm σ m (if h:c then x h else none) = ∃ h:c,eh P lo Q k ops wr d l fs tm σ m (x h):=by
 by_cases h:c<;>simp [h,Lz]
theorem WY {nm:Option Nat} {wr hd:List Nat} {σ:ai}:dv ⟨nm,wr,hd⟩ σ=eB (fun b=>!hd.contains b) 0 σ:=rfl
theorem Yuf {vis:Nat→Bool} {i:Nat}:eB vis i []=[]:=rfl
theorem Ysa {vis:Nat→Bool} {i:Nat} {b:Option bE} {σ:ai}:eB vis i (b :: σ)=(if vis i=true then b else none) :: eB vis (i+1) σ:=rfl
theorem Yum {wr:List Nat} {i:Nat}:eT wr i [] []=True:=rfl
theorem Yp1 {wr:List Nat} {i:Nat} {a b:Option bE} {cj bs:ai}:eT wr i (a :: cj) (b :: bs)=((wr.contains i=true∨a=b)∧eT wr (i+1) cj bs):=rfl
theorem VQ {wr:List Nat} {i:Nat} {a:Option bE} {cj bs:ai}:eT wr i (a :: cj) (a :: bs)=eT wr (i+1) cj bs:=by simp [eT]
theorem Yy9 {wr:List Nat} {i:Nat}:dB wr i [] []=[]:=rfl
theorem Ype {wr:List Nat} {i:Nat} {a b:Option bE} {cj bs:ai}:dB wr i (a :: cj) (b :: bs)=(if wr.contains i=true then a else b) :: dB wr (i+1) cj bs:=rfl
theorem Yqk {c:Nat} {wr hd:List Nat} {σ:ai}:Fp.name ⟨some c,wr,hd⟩ σ=c:=rfl
theorem Yqq {wr hd:List Nat} {σ:ai}:Fp.name ⟨none,wr,hd⟩ σ = σ.length:=rfl
theorem Yjn:Fp.no.wr=[]:=rfl
theorem Zzr {σ:ai}:Fp.no.name σ = σ.length:=rfl
theorem ny {d:Option Tmp} {g:FuncId} {first captured args args':List ae} {r:ae} {wr:List Nat} (hc:aJ P g args' r) (hp:kB (among []) m args' (first++args++captured)) (hl:bx 0 args')
  (h:im P lo Q k ops l fs (put tm d r) (dB wr 0 m σ)):rS P lo Q k ops wr d l fs tm σ m (.fn g first captured) args :=
 ⟨r,m,aq.bU [] hc hp hl ⟨rfl,by rw [jb];split<;>rfl⟩,zC wr m 0,h⟩
end
section
variable {P:Program} {lo:Ctx} {Q:b9→St→Prop} {k:List KI} {ops:Array Oper} {l:List Oper} {f:Fp} {fs:List Fp} {tm:List ae} {σ m:ai} {d:Option Tmp} {tt:TypeId} {ps:String} {af:Array Edge} {gg:Option (Nat×Bool)}
theorem Zzu {bi:Builtin} {args:Array Operand} {ts:Array TypeId}:eR P lo Q k ops f ⟨d, .call ⟨.builtin bi,args,ts⟩,tt,ps,af,gg⟩ l fs tm σ m=eh P lo Q k ops f.wr d l fs tm σ m (cY P m (f.name σ) (ev tm) (.call ⟨.builtin bi,args,ts⟩)):=(Eq.refl _).trans rfl
theorem Yr3 {fu:FuncId} {a c:Array Operand}:eR P lo Q k ops f ⟨d, .makeFunc (.func fu) a c,tt,ps,af,gg⟩ l fs tm σ m=eh P lo Q k ops f.wr d l fs tm σ m (cY P m (f.name σ) (ev tm) (.makeFunc (.func fu) a c)):=(Eq.refl _).trans rfl
theorem Yq9 {x:Operand}:eR P lo Q k ops f ⟨d, .move x,tt,ps,af,gg⟩ l fs tm σ m=eh P lo Q k ops f.wr d l fs tm σ m (cY P m (f.name σ) (ev tm) (.move x)):=(Eq.refl _).trans rfl
theorem Xq {x:Operand}:eR P lo Q k ops f ⟨d, .assign x,tt,ps,af,gg⟩ l fs tm σ m=eh P lo Q k ops f.wr d l fs tm σ m (cY P m (f.name σ) (ev tm) (.assign x)):=(Eq.refl _).trans rfl
theorem Yqn {x:Operand} {y:Operand} {z:Operand}:eR P lo Q k ops f ⟨d, .pick x y z,tt,ps,af,gg⟩ l fs tm σ m=eh P lo Q k ops f.wr d l fs tm σ m (cY P m (f.name σ) (ev tm) (.pick x y z)):=(Eq.refl _).trans rfl
theorem Z_ {t:TypeId}:eR P lo Q k ops f ⟨d, .alloc t,tt,ps,af,gg⟩ l fs tm σ m=eh P lo Q k ops f.wr d l fs tm σ m (cY P m (f.name σ) (ev tm) (.alloc t)):=(Eq.refl _).trans rfl
theorem Ysz {t:TypeId} {x:Operand}:eR P lo Q k ops f ⟨d, .box t x,tt,ps,af,gg⟩ l fs tm σ m=eh P lo Q k ops f.wr d l fs tm σ m (cY P m (f.name σ) (ev tm) (.box t x)):=(Eq.refl _).trans rfl
theorem ZV {t:TypeId} {pp:Array (Nat×Operand)}:eR P lo Q k ops f ⟨d, .build t pp,tt,ps,af,gg⟩ l fs tm σ m=eh P lo Q k ops f.wr d l fs tm σ m (cY P m (f.name σ) (ev tm) (.build t pp)):=(Eq.refl _).trans rfl
theorem Zoz {t:TypeId} {q:Nat} {pp:Array (Nat×Operand)}:eR P lo Q k ops f ⟨d, .buildSlice t q pp,tt,ps,af,gg⟩ l fs tm σ m=eh P lo Q k ops f.wr d l fs tm σ m (cY P m (f.name σ) (ev tm) (.buildSlice t q pp)):=(Eq.refl _).trans rfl
theorem Yod {t:TypeId} {x:Operand}:eR P lo Q k ops f ⟨d, .load t x,tt,ps,af,gg⟩ l fs tm σ m=eh P lo Q k ops f.wr d l fs tm σ m (cY P m (f.name σ) (ev tm) (.load t x)):=(Eq.refl _).trans rfl
theorem Yki {t:TypeId} {x:Operand} {y:Operand}:eR P lo Q k ops f ⟨d, .store t x y,tt,ps,af,gg⟩ l fs tm σ m=eh P lo Q k ops f.wr d l fs tm σ m (cY P m (f.name σ) (ev tm) (.store t x y)):=(Eq.refl _).trans rfl
theorem Zuq {x:Operand}:eR P lo Q k ops f ⟨d, .nilCheck x,tt,ps,af,gg⟩ l fs tm σ m=eh P lo Q k ops f.wr d l fs tm σ m (cY P m (f.name σ) (ev tm) (.nilCheck x)):=(Eq.refl _).trans rfl
theorem Yl1 {op:BinOp} {t:TypeId} {x:Operand} {y:Operand} {u:TypeId}:eR P lo Q k ops f ⟨d, .binOp op t x y u,tt,ps,af,gg⟩ l fs tm σ m=eh P lo Q k ops f.wr d l fs tm σ m (cY P m (f.name σ) (ev tm) (.binOp op t x y u)):=(Eq.refl _).trans rfl
theorem Yo7 {uo:UnOp} {t:TypeId} {x:Operand}:eR P lo Q k ops f ⟨d, .unOp uo t x,tt,ps,af,gg⟩ l fs tm σ m=eh P lo Q k ops f.wr d l fs tm σ m (cY P m (f.name σ) (ev tm) (.unOp uo t x)):=(Eq.refl _).trans rfl
theorem Zz8 {t:TypeId} {u:TypeId} {x:Operand}:eR P lo Q k ops f ⟨d, .convert t u x,tt,ps,af,gg⟩ l fs tm σ m=eh P lo Q k ops f.wr d l fs tm σ m (cY P m (f.name σ) (ev tm) (.convert t u x)):=(Eq.refl _).trans rfl
theorem Zjc {t:TypeId} {x:Operand}:eR P lo Q k ops f ⟨d, .makeInterface t x,tt,ps,af,gg⟩ l fs tm σ m=eh P lo Q k ops f.wr d l fs tm σ m (cY P m (f.name σ) (ev tm) (.makeInterface t x)):=(Eq.refl _).trans rfl
theorem Yji {t:TypeId} {x:Operand} {ox:Option Operand} {oy:Option Operand} {oz:Option Operand}:eR P lo Q k ops f ⟨d, .slice t x ox oy oz,tt,ps,af,gg⟩ l fs tm σ m=eh P lo Q k ops f.wr d l fs tm σ m (cY P m (f.name σ) (ev tm) (.slice t x ox oy oz)):=(Eq.refl _).trans rfl
theorem Zpx {t:TypeId} {x:Operand} {q:Nat}:eR P lo Q k ops f ⟨d, .fieldAddr t x q,tt,ps,af,gg⟩ l fs tm σ m=eh P lo Q k ops f.wr d l fs tm σ m (cY P m (f.name σ) (ev tm) (.fieldAddr t x q)):=(Eq.refl _).trans rfl
theorem ZY {t:TypeId} {x:Operand} {q:Nat}:eR P lo Q k ops f ⟨d, .field t x q,tt,ps,af,gg⟩ l fs tm σ m=eh P lo Q k ops f.wr d l fs tm σ m (cY P m (f.name σ) (ev tm) (.field t x q)):=(Eq.refl _).trans rfl
theorem Zs5 {t:TypeId} {x:Operand} {y:Operand}:eR P lo Q k ops f ⟨d, .indexAddr t x y,tt,ps,af,gg⟩ l fs tm σ m=eh P lo Q k ops f.wr d l fs tm σ m (cY P m (f.name σ) (ev tm) (.indexAddr t x y)):=(Eq.refl _).trans rfl
theorem Zw {t:TypeId} {x:Operand} {y:Operand}:eR P lo Q k ops f ⟨d, .index t x y,tt,ps,af,gg⟩ l fs tm σ m=eh P lo Q k ops f.wr d l fs tm σ m (cY P m (f.name σ) (ev tm) (.index t x y)):=(Eq.refl _).trans rfl
theorem XH {t:TypeId} {x:Operand} {y:Operand} {b:Bool}:eR P lo Q k ops f ⟨d, .lookup t x y b,tt,ps,af,gg⟩ l fs tm σ m=eh P lo Q k ops f.wr d l fs tm σ m (cY P m (f.name σ) (ev tm) (.lookup t x y b)):=(Eq.refl _).trans rfl
theorem Zrz {t:TypeId} {x:Operand} {y:Operand} {z:Operand}:eR P lo Q k ops f ⟨d, .mapUpdate t x y z,tt,ps,af,gg⟩ l fs tm σ m=eh P lo Q k ops f.wr d l fs tm σ m (cY P m (f.name σ) (ev tm) (.mapUpdate t x y z)):=(Eq.refl _).trans rfl
theorem ZM {t:TypeId} {x:Operand}:eR P lo Q k ops f ⟨d, .range t x,tt,ps,af,gg⟩ l fs tm σ m=eh P lo Q k ops f.wr d l fs tm σ m (cY P m (f.name σ) (ev tm) (.range t x)):=(Eq.refl _).trans rfl
theorem Yot {x:Operand} {b:Bool}:eR P lo Q k ops f ⟨d, .next x b,tt,ps,af,gg⟩ l fs tm σ m=eh P lo Q k ops f.wr d l fs tm σ m (cY P m (f.name σ) (ev tm) (.next x b)):=(Eq.refl _).trans rfl
theorem Zp2 {x:Operand} {t:TypeId} {u:TypeId} {b:Bool}:eR P lo Q k ops f ⟨d, .typeAssert x t u b,tt,ps,af,gg⟩ l fs tm σ m=eh P lo Q k ops f.wr d l fs tm σ m (cY P m (f.name σ) (ev tm) (.typeAssert x t u b)):=(Eq.refl _).trans rfl
theorem Zze {x:Operand} {q:Nat}:eR P lo Q k ops f ⟨d, .extract x q,tt,ps,af,gg⟩ l fs tm σ m=eh P lo Q k ops f.wr d l fs tm σ m (cY P m (f.name σ) (ev tm) (.extract x q)):=(Eq.refl _).trans rfl
theorem Zr3 {t:TypeId} {x:Operand} {y:Operand}:eR P lo Q k ops f ⟨d, .makeSlice t x y,tt,ps,af,gg⟩ l fs tm σ m=eh P lo Q k ops f.wr d l fs tm σ m (cY P m (f.name σ) (ev tm) (.makeSlice t x y)):=(Eq.refl _).trans rfl
theorem Wc {t:TypeId} {ox:Option Operand}:eR P lo Q k ops f ⟨d, .makeMap t ox,tt,ps,af,gg⟩ l fs tm σ m=eh P lo Q k ops f.wr d l fs tm σ m (cY P m (f.name σ) (ev tm) (.makeMap t ox)):=(Eq.refl _).trans rfl
end
attribute [go_sem high] Yw7 Xh Yny Yr7 Wy Up VQ QV Yjv
attribute [go_sem] Int.toNat_zero decide_eq_true_eq decide_eq_false_iff_not Bool.not_eq_true Bool.not_eq_false Decidable.not_not List.contains_cons List.contains_nil
attribute [go_sem] zT zP Yz9 Ytk Ys Kg Lz Yzz Yw3 Yuf Ysa Yum Yy9 Ype Yqk Yqq Yjn Zzr Zzu Yr3 Yq9 Xq Yqn Z_ Ysz ZV Zoz Yod Yki Zuq Yl1 Yo7 Zz8 Zjc Yji Zpx ZY Zs5 Zw XH Zrz ZM Yot Zp2 Zze Zr3 Wc List.tail_cons List.tail_nil
attribute [go_sem low] Ywn WY Oa Yp1
end Go.c8
