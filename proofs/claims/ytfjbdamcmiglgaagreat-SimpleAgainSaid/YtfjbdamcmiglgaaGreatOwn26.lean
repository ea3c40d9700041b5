/- Part 26 of my own framework and of the walks of functions: AcsA. -/
import Derived.Test.YtfjbdamcmiglgaaGreatOwn25
set_option linter.unusedVariables false
set_option linter.unusedSectionVars false
set_option linter.unusedSimpArgs false
namespace Go.c8
open Go
def f_ (n:Nat) (l:List (Nat×ae)):List ae:=l.foldr (fun p t=>t.set p.1 p.2) (List.replicate n .undef)
theorem Aj {n:Nat}:f_ n []=List.replicate n .undef:=rfl
theorem Ad {n i:Nat} {v:ae} {l:List (Nat×ae)}:f_ n ((i,v) :: l)=(f_ n l).set i v:=rfl
def mI (P:Program) (lo:Ctx) (Q:cb→St→Prop) (k:List KI) (ops:Array Oper) (g:Option Bool) (o:Oper) (l:List Oper) (fs:List Fp) (tm:List ae) (σ:ai):Prop :=
 ∃ g',g=some g'∧(g'=false→iD P lo Q k ops l fs.tail (put tm o.dst gone) σ) ∧
   (g'=true→∃ r dk,kR P o.op tm (dy (fs.headD .no) σ) ((fs.headD .no).name σ) r dk∧e7 (fs.headD .no).wr 0 dk (dy (fs.headD .no) σ) ∧
    iD P lo Q k ops l fs.tail (put tm o.dst r) (dG (fs.headD .no).wr 0 dk σ))
def eZ (P:Program) (lo:Ctx) (Q:cb→St→Prop) (k:List KI) (ops:Array Oper) (f:Fp) (o:Oper) (l:List Oper) (fs:List Fp) (tm:List ae) (σ m:ai):Prop :=
 ∃ r dk,kR P o.op tm m (f.name σ) r dk∧e7 f.wr 0 dk m∧iD P lo Q k ops l fs (put tm o.dst r) (dG f.wr 0 dk σ)
def er (P:Program) (lo:Ctx) (Q:cb→St→Prop) (k:List KI) (ops:Array Oper) (wr:List Nat) (d:Option Tmp) (l:List Oper) (fs:List Fp) (tm:List ae) (σ m:ai) (x:Option (ae×ai)):Prop :=
 ∃ r dk,x=some (r,dk)∧e7 wr 0 dk m∧iD P lo Q k ops l fs (put tm d r) (dG wr 0 dk σ)
section
variable {P:Program} {lo:Ctx} {Q:cb→St→Prop} {k:List KI} {ops:Array Oper} {o:Oper} {l:List Oper} {f:Fp} {fs:List Fp} {tm:List ae} {σ dk m:ai}
theorem XC:iD P lo Q k ops [] fs tm σ=aK P lo Q k .normal ⟨tm,σ⟩:=by cases fs<;>rfl
theorem Yv1:iD P lo Q k ops (o :: l) (f :: fs) tm σ=mI P lo Q k ops (my ops tm o) o l (f :: fs) tm σ:=(Eq.refl _).trans rfl
theorem Ygy:iD P lo Q k ops (o :: l) [] tm σ=mI P lo Q k ops (my ops tm o) o l [] tm σ:=(Eq.refl _).trans rfl
theorem Ywu:mI P lo Q k ops (some true) o l (f :: fs) tm σ=eZ P lo Q k ops f o l fs tm σ (dy f σ):=by simp [mI,eZ]
theorem K0 (vis:Nat→Bool) (h:∀ b,vis b=true):∀ (σ:ai) (i:Nat),eJ vis i σ = σ
 | [],_=>rfl
 | b :: r,i=>by simp [eJ,h i,K0 vis h r (i+1)]
theorem VT {σ:ai}:dy Fp.no σ = σ:=K0 _ (fun b=>by simp [Fp.no]) σ 0
theorem Zz8 {nm:Option Nat} {wr:List Nat} {σ:ai}:dy ⟨nm,wr,[]⟩ σ = σ:=K0 _ (fun b=>by simp) σ 0
theorem Z2:mI P lo Q k ops (some true) o l [] tm σ=eZ P lo Q k ops .no o l [] tm σ σ:=by simp [mI,eZ,VT]
theorem Ypr:mI P lo Q k ops (some false) o l fs tm σ=iD P lo Q k ops l fs.tail (put tm o.dst gone) σ:=by simp [mI]
theorem Yv7 {g:Bool}:mI P lo Q k ops (some g) o l fs tm σ=((g=true→mI P lo Q k ops (some true) o l fs tm σ)∧(g=false→mI P lo Q k ops (some false) o l fs tm σ)):=by cases g<;>simp [mI]
def sr (P:Program) (lo:Ctx) (Q:cb→St→Prop) (k:List KI) (ops:Array Oper) (wr:List Nat) (d:Option Tmp) (l:List Oper) (fs:List Fp) (tm:List ae) (σ m:ai) (f:ae) (args:List ae):Prop :=
 ∃ r dk,aq P f args m (fun r' σ'=>r'=r∧σ' = dk)∧e7 wr 0 dk m∧iD P lo Q k ops l fs (put tm d r) (dG wr 0 dk σ)
theorem Yu5 {d:Option Tmp} {fo:Operand} {args:Array Operand} {ts:Array TypeId} {t:TypeId} {p:String} {a:Array Edge} {g:Option (Nat×Bool)} :
  eZ P lo Q k ops f ⟨d, .call ⟨.value fo,args,ts⟩,t,p,a,g⟩ l fs tm σ m=sr P lo Q k ops f.wr d l fs tm σ m (ev tm fo) (args.toList.map (ev tm)):=(Eq.refl _).trans rfl
theorem zW (wr:List Nat):∀ (σ:ai) (i:Nat),e7 wr i σ σ
 | [],_=>trivial
 | _ :: r,i=>⟨.inr rfl,zW wr r (i+1)⟩
theorem Ss {wr:List Nat} {i:Nat}:e7 wr i σ σ=True:=eq_true (zW wr σ i)
theorem KS:∀ (a b:ai) (i:Nat),dG [] i a b=b
 | [],_,_=>by simp [dG]
 | _ :: _,[],_=>by simp [dG]
 | a :: cm,b :: bs,i=>by simp [dG,KS cm bs (i+1)]
theorem Pe {wr:List Nat} {d:Option Tmp} {r:ae}:er P lo Q k ops wr d l fs tm σ m (some (r,dk))=(e7 wr 0 dk m∧iD P lo Q k ops l fs (put tm d r) (dG wr 0 dk σ)):=by
 simp only [er,aG,bx]
 apply propext
 constructor
 ·rintro ⟨r',σ',⟨rfl,rfl⟩,h⟩;exact h
 ·intro h;exact ⟨r,dk,⟨rfl,rfl⟩,h⟩
theorem Ykv {d:Option Tmp} {r:ae}:er P lo Q k ops [] d l fs tm σ m (some (r,m))=iD P lo Q k ops l fs (put tm d r) σ:=by
 rw [Pe,KS,Ss,true_and]
theorem LR {wr:List Nat} {d:Option Tmp}:er P lo Q k ops wr d l fs tm σ m none=False:=by simp [er]
theorem XE {c:Prop} [Decidable c] {x:Option (ae×ai)} {wr:List Nat} {d:Option Tmp}:er P lo Q k ops wr d l fs tm σ m (if c then x else none)=(c∧er P lo Q k ops wr d l fs tm σ m x):=by
 by_cases h:c<;>simp [h,LR]
theorem Yyh {c:Prop} [Decidable c] {x:c→Option (ae×ai)} {wr:List Nat} {d:Option Tmp}:er P lo Q k ops wr d l fs tm σ m (if h:c then x h else none) = ∃ h:c,er P lo Q k ops wr d l fs tm σ m (x h):=by
 by_cases h:c<;>simp [h,LR]
theorem Yg8 {nm:Option Nat} {wr hd:List Nat} {σ:ai}:dy ⟨nm,wr,hd⟩ σ=eJ (fun b=>!hd.contains b) 0 σ:=rfl
theorem Yv0 {vis:Nat→Bool} {i:Nat}:eJ vis i []=[]:=rfl
theorem Yrx {vis:Nat→Bool} {i:Nat} {b:Option bE} {σ:ai}:eJ vis i (b :: σ)=(if vis i=true then b else none) :: eJ vis (i+1) σ:=rfl
theorem Ywz {wr:List Nat} {i:Nat}:e7 wr i [] []=True:=rfl
theorem Yts {wr:List Nat} {i:Nat} {a b:Option bE} {cm bs:ai}:e7 wr i (a :: cm) (b :: bs)=((wr.contains i=true∨a=b)∧e7 wr (i+1) cm bs):=rfl
theorem XJ {wr:List Nat} {i:Nat} {a:Option bE} {cm bs:ai}:e7 wr i (a :: cm) (a :: bs)=e7 wr (i+1) cm bs:=by simp [e7]
theorem Yup {wr:List Nat} {i:Nat}:dG wr i [] []=[]:=rfl
theorem Yu1 {wr:List Nat} {i:Nat} {a b:Option bE} {cm bs:ai}:dG wr i (a :: cm) (b :: bs)=(if wr.contains i=true then a else b) :: dG wr (i+1) cm bs:=rfl
theorem Ypt {c:Nat} {wr hd:List Nat} {σ:ai}:Fp.name ⟨some c,wr,hd⟩ σ=c:=rfl
theorem Ysn {wr hd:List Nat} {σ:ai}:Fp.name ⟨none,wr,hd⟩ σ = σ.length:=rfl
theorem Ync:Fp.no.wr=[]:=rfl
theorem Ye {σ:ai}:Fp.no.name σ = σ.length:=rfl
theorem n5 {d:Option Tmp} {g:FuncId} {first captured args args':List ae} {r:ae} {wr:List Nat} (hc:aJ P g args' r) (hp:kO (among []) m args' (first++args++captured)) (hl:bz 0 args')
  (h:iD P lo Q k ops l fs (put tm d r) (dG wr 0 m σ)):sr P lo Q k ops wr d l fs tm σ m (.fn g first captured) args :=
 ⟨r,m,aq.bV [] hc hp hl ⟨rfl,by rw [jj];split<;>rfl⟩,zW wr m 0,h⟩
end
section
variable {P:Program} {lo:Ctx} {Q:cb→St→Prop} {k:List KI} {ops:Array Oper} {l:List Oper} {f:Fp} {fs:List Fp} {tm:List ae} {σ m:ai} {d:Option Tmp} {tt:TypeId} {ps:String} {af:Array Edge} {gg:Option (Nat×Bool)}
theorem X7 {bi:Builtin} {args:Array Operand} {ts:Array TypeId}:eZ P lo Q k ops f ⟨d, .call ⟨.builtin bi,args,ts⟩,tt,ps,af,gg⟩ l fs tm σ m=er P lo Q k ops f.wr d l fs tm σ m (c9 P m (f.name σ) (ev tm) (.call ⟨.builtin bi,args,ts⟩)):=(Eq.refl _).trans rfl
theorem Ypz {fu:FuncId} {a c:Array Operand}:eZ P lo Q k ops f ⟨d, .makeFunc (.func fu) a c,tt,ps,af,gg⟩ l fs tm σ m=er P lo Q k ops f.wr d l fs tm σ m (c9 P m (f.name σ) (ev tm) (.makeFunc (.func fu) a c)):=(Eq.refl _).trans rfl
theorem Yq2 {x:Operand}:eZ P lo Q k ops f ⟨d, .move x,tt,ps,af,gg⟩ l fs tm σ m=er P lo Q k ops f.wr d l fs tm σ m (c9 P m (f.name σ) (ev tm) (.move x)):=(Eq.refl _).trans rfl
theorem Zq {x:Operand}:eZ P lo Q k ops f ⟨d, .assign x,tt,ps,af,gg⟩ l fs tm σ m=er P lo Q k ops f.wr d l fs tm σ m (c9 P m (f.name σ) (ev tm) (.assign x)):=(Eq.refl _).trans rfl
theorem Yq8 {x:Operand} {y:Operand} {z:Operand}:eZ P lo Q k ops f ⟨d, .pick x y z,tt,ps,af,gg⟩ l fs tm σ m=er P lo Q k ops f.wr d l fs tm σ m (c9 P m (f.name σ) (ev tm) (.pick x y z)):=(Eq.refl _).trans rfl
theorem Yjn {t:TypeId}:eZ P lo Q k ops f ⟨d, .alloc t,tt,ps,af,gg⟩ l fs tm σ m=er P lo Q k ops f.wr d l fs tm σ m (c9 P m (f.name σ) (ev tm) (.alloc t)):=(Eq.refl _).trans rfl
theorem Ywl {t:TypeId} {x:Operand}:eZ P lo Q k ops f ⟨d, .box t x,tt,ps,af,gg⟩ l fs tm σ m=er P lo Q k ops f.wr d l fs tm σ m (c9 P m (f.name σ) (ev tm) (.box t x)):=(Eq.refl _).trans rfl
theorem Ymg {t:TypeId} {pp:Array (Nat×Operand)}:eZ P lo Q k ops f ⟨d, .build t pp,tt,ps,af,gg⟩ l fs tm σ m=er P lo Q k ops f.wr d l fs tm σ m (c9 P m (f.name σ) (ev tm) (.build t pp)):=(Eq.refl _).trans rfl
theorem Zp6 {t:TypeId} {q:Nat} {pp:Array (Nat×Operand)}:eZ P lo Q k ops f ⟨d, .buildSlice t q pp,tt,ps,af,gg⟩ l fs tm σ m=er P lo Q k ops f.wr d l fs tm σ m (c9 P m (f.name σ) (ev tm) (.buildSlice t q pp)):=(Eq.refl _).trans rfl
theorem Yst {t:TypeId} {x:Operand}:eZ P lo Q k ops f ⟨d, .load t x,tt,ps,af,gg⟩ l fs tm σ m=er P lo Q k ops f.wr d l fs tm σ m (c9 P m (f.name σ) (ev tm) (.load t x)):=(Eq.refl _).trans rfl
theorem Ynb {t:TypeId} {x:Operand} {y:Operand}:eZ P lo Q k ops f ⟨d, .store t x y,tt,ps,af,gg⟩ l fs tm σ m=er P lo Q k ops f.wr d l fs tm σ m (c9 P m (f.name σ) (ev tm) (.store t x y)):=(Eq.refl _).trans rfl
theorem Zui {x:Operand}:eZ P lo Q k ops f ⟨d, .nilCheck x,tt,ps,af,gg⟩ l fs tm σ m=er P lo Q k ops f.wr d l fs tm σ m (c9 P m (f.name σ) (ev tm) (.nilCheck x)):=(Eq.refl _).trans rfl
theorem Yo7 {op:BinOp} {t:TypeId} {x:Operand} {y:Operand} {u:TypeId}:eZ P lo Q k ops f ⟨d, .binOp op t x y u,tt,ps,af,gg⟩ l fs tm σ m=er P lo Q k ops f.wr d l fs tm σ m (c9 P m (f.name σ) (ev tm) (.binOp op t x y u)):=(Eq.refl _).trans rfl
theorem Ysd {uo:UnOp} {t:TypeId} {x:Operand}:eZ P lo Q k ops f ⟨d, .unOp uo t x,tt,ps,af,gg⟩ l fs tm σ m=er P lo Q k ops f.wr d l fs tm σ m (c9 P m (f.name σ) (ev tm) (.unOp uo t x)):=(Eq.refl _).trans rfl
theorem YL {t:TypeId} {u:TypeId} {x:Operand}:eZ P lo Q k ops f ⟨d, .convert t u x,tt,ps,af,gg⟩ l fs tm σ m=er P lo Q k ops f.wr d l fs tm σ m (c9 P m (f.name σ) (ev tm) (.convert t u x)):=(Eq.refl _).trans rfl
theorem Zjt {t:TypeId} {x:Operand}:eZ P lo Q k ops f ⟨d, .makeInterface t x,tt,ps,af,gg⟩ l fs tm σ m=er P lo Q k ops f.wr d l fs tm σ m (c9 P m (f.name σ) (ev tm) (.makeInterface t x)):=(Eq.refl _).trans rfl
theorem Ymb {t:TypeId} {x:Operand} {ox:Option Operand} {oy:Option Operand} {oz:Option Operand}:eZ P lo Q k ops f ⟨d, .slice t x ox oy oz,tt,ps,af,gg⟩ l fs tm σ m=er P lo Q k ops f.wr d l fs tm σ m (c9 P m (f.name σ) (ev tm) (.slice t x ox oy oz)):=(Eq.refl _).trans rfl
theorem Zrt {t:TypeId} {x:Operand} {q:Nat}:eZ P lo Q k ops f ⟨d, .fieldAddr t x q,tt,ps,af,gg⟩ l fs tm σ m=er P lo Q k ops f.wr d l fs tm σ m (c9 P m (f.name σ) (ev tm) (.fieldAddr t x q)):=(Eq.refl _).trans rfl
theorem Yjk {t:TypeId} {x:Operand} {q:Nat}:eZ P lo Q k ops f ⟨d, .field t x q,tt,ps,af,gg⟩ l fs tm σ m=er P lo Q k ops f.wr d l fs tm σ m (c9 P m (f.name σ) (ev tm) (.field t x q)):=(Eq.refl _).trans rfl
theorem Zsp {t:TypeId} {x:Operand} {y:Operand}:eZ P lo Q k ops f ⟨d, .indexAddr t x y,tt,ps,af,gg⟩ l fs tm σ m=er P lo Q k ops f.wr d l fs tm σ m (c9 P m (f.name σ) (ev tm) (.indexAddr t x y)):=(Eq.refl _).trans rfl
theorem Yiv {t:TypeId} {x:Operand} {y:Operand}:eZ P lo Q k ops f ⟨d, .index t x y,tt,ps,af,gg⟩ l fs tm σ m=er P lo Q k ops f.wr d l fs tm σ m (c9 P m (f.name σ) (ev tm) (.index t x y)):=(Eq.refl _).trans rfl
theorem Zp {t:TypeId} {x:Operand} {y:Operand} {b:Bool}:eZ P lo Q k ops f ⟨d, .lookup t x y b,tt,ps,af,gg⟩ l fs tm σ m=er P lo Q k ops f.wr d l fs tm σ m (c9 P m (f.name σ) (ev tm) (.lookup t x y b)):=(Eq.refl _).trans rfl
theorem Zrf {t:TypeId} {x:Operand} {y:Operand} {z:Operand}:eZ P lo Q k ops f ⟨d, .mapUpdate t x y z,tt,ps,af,gg⟩ l fs tm σ m=er P lo Q k ops f.wr d l fs tm σ m (c9 P m (f.name σ) (ev tm) (.mapUpdate t x y z)):=(Eq.refl _).trans rfl
theorem Yme {t:TypeId} {x:Operand}:eZ P lo Q k ops f ⟨d, .range t x,tt,ps,af,gg⟩ l fs tm σ m=er P lo Q k ops f.wr d l fs tm σ m (c9 P m (f.name σ) (ev tm) (.range t x)):=(Eq.refl _).trans rfl
theorem Yta {x:Operand} {b:Bool}:eZ P lo Q k ops f ⟨d, .next x b,tt,ps,af,gg⟩ l fs tm σ m=er P lo Q k ops f.wr d l fs tm σ m (c9 P m (f.name σ) (ev tm) (.next x b)):=(Eq.refl _).trans rfl
theorem Zob {x:Operand} {t:TypeId} {u:TypeId} {b:Bool}:eZ P lo Q k ops f ⟨d, .typeAssert x t u b,tt,ps,af,gg⟩ l fs tm σ m=er P lo Q k ops f.wr d l fs tm σ m (c9 P m (f.name σ) (ev tm) (.typeAssert x t u b)):=(Eq.refl _).trans rfl
theorem YC {x:Operand} {q:Nat}:eZ P lo Q k ops f ⟨d, .extract x q,tt,ps,af,gg⟩ l fs tm σ m=er P lo Q k ops f.wr d l fs tm σ m (c9 P m (f.name σ) (ev tm) (.extract x q)):=(Eq.refl _).trans rfl
theorem Zsq {t:TypeId} {x:Operand} {y:Operand}:eZ P lo Q k ops f ⟨d, .makeSlice t x y,tt,ps,af,gg⟩ l fs tm σ m=er P lo Q k ops f.wr d l fs tm σ m (c9 P m (f.name σ) (ev tm) (.makeSlice t x y)):=(Eq.refl _).trans rfl
theorem Yk {t:TypeId} {ox:Option Operand}:eZ P lo Q k ops f ⟨d, .makeMap t ox,tt,ps,af,gg⟩ l fs tm σ m=er P lo Q k ops f.wr d l fs tm σ m (c9 P m (f.name σ) (ev tm) (.makeMap t ox)):=(Eq.refl _).trans rfl
end
attribute [go_sem high] Ywu Z2 Ypr Yu5 Zz8 VT XJ Ss Ykv
attribute [go_sem] Int.toNat_zero decide_eq_true_eq decide_eq_false_iff_not Bool.not_eq_true Bool.not_eq_false Decidable.not_not List.contains_cons List.contains_nil
attribute [go_sem] Aj Ad XC Yv1 Ygy KS LR XE Yyh Yv0 Yrx Ywz Yup Yu1 Ypt Ysn Ync Ye X7 Ypz Yq2 Zq Yq8 Yjn Ywl Ymg Zp6 Yst Ynb Zui Yo7 Ysd YL Zjt Ymb Zrt Yjk Zsp Yiv Zp Zrf Yme Yta Zob YC Zsq Yk List.tail_cons List.tail_nil
attribute [go_sem low] Yv7 Yg8 Pe Yts
end Go.c8
