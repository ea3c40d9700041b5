/- Part 26 of my own framework and of the walks of functions: AcsA. -/
import Derived.Test.YtfjbdamcmiglgaaGreatOwn25
set_option linter.unusedVariables false
set_option linter.unusedSectionVars false
set_option linter.unusedSimpArgs false
namespace Go.cV
open Go
def fD (n:Nat) (l:List (Nat×ae)):List ae:=l.foldr (fun p t=>t.set p.1 p.2) (List.replicate n .undef)
theorem z6 {n:Nat}:fD n []=List.replicate n .undef:=rfl
theorem zX {n i:Nat} {v:ae} {l:List (Nat×ae)}:fD n ((i,v) :: l)=(fD n l).set i v:=rfl
def mw (P:Program) (lo:Ctx) (Q:cb→St→Prop) (k:List KI) (ops:Array Oper) (g:Option Bool) (o:Oper) (l:List Oper) (fs:List Fp) (tm:List ae) (σ:ai):Prop :=
 ∃ g',g=some g'∧(g'=false→iq P lo Q k ops l fs.tail (put tm o.dst gone) σ) ∧
   (g'=true→∃ r dh,kB P o.op tm (dw (fs.headD .no) σ) ((fs.headD .no).name σ) r dh∧eW (fs.headD .no).wr 0 dh (dw (fs.headD .no) σ) ∧
    iq P lo Q k ops l fs.tail (put tm o.dst r) (dD (fs.headD .no).wr 0 dh σ))
def eT (P:Program) (lo:Ctx) (Q:cb→St→Prop) (k:List KI) (ops:Array Oper) (f:Fp) (o:Oper) (l:List Oper) (fs:List Fp) (tm:List ae) (σ m:ai):Prop :=
 ∃ r dh,kB P o.op tm m (f.name σ) r dh∧eW f.wr 0 dh m∧iq P lo Q k ops l fs (put tm o.dst r) (dD f.wr 0 dh σ)
def en (P:Program) (lo:Ctx) (Q:cb→St→Prop) (k:List KI) (ops:Array Oper) (wr:List Nat) (d:Option Tmp) (l:List Oper) (fs:List Fp) (tm:List ae) (σ m:ai) (x:Option (ae×ai)):Prop :=
 ∃ r dh,x=some (r,dh)∧eW wr 0 dh m∧iq P lo Q k ops l fs (put tm d r) (dD wr 0 dh σ)
section
variable {P:Program} {lo:Ctx} {Q:cb→St→Prop} {k:List KI} {ops:Array Oper} {o:Oper} {l:List Oper} {f:Fp} {fs:List Fp} {tm:List ae} {σ dh m:ai}
theorem Wp:iq P lo Q k ops [] fs tm σ=aK P lo Q k .normal ⟨tm,σ⟩:=by cases fs<;>rfl
theorem Yw4:iq P lo Q k ops (o :: l) (f :: fs) tm σ=mw P lo Q k ops (l8 ops tm o) o l (f :: fs) tm σ:=(Eq.refl _).trans rfl
theorem Ya:iq P lo Q k ops (o :: l) [] tm σ=mw P lo Q k ops (l8 ops tm o) o l [] tm σ:=(Eq.refl _).trans rfl
theorem Yug:mw P lo Q k ops (some true) o l (f :: fs) tm σ=eT P lo Q k ops f o l fs tm σ (dw f σ):=by simp [mw,eT]
theorem Kr (vis:Nat→Bool) (h:∀ b,vis b=true):∀ (σ:ai) (i:Nat),eF vis i σ = σ
 | [],_=>rfl
 | b :: r,i=>by simp [eF,h i,Kr vis h r (i+1)]
theorem Tq {σ:ai}:dw Fp.no σ = σ:=Kr _ (fun b=>by simp [Fp.no]) σ 0
theorem WB {nm:Option Nat} {wr:List Nat} {σ:ai}:dw ⟨nm,wr,[]⟩ σ = σ:=Kr _ (fun b=>by simp) σ 0
theorem YE:mw P lo Q k ops (some true) o l [] tm σ=eT P lo Q k ops .no o l [] tm σ σ:=by simp [mw,eT,Tq]
theorem Yoy:mw P lo Q k ops (some false) o l fs tm σ=iq P lo Q k ops l fs.tail (put tm o.dst gone) σ:=by simp [mw]
theorem Yw8 {g:Bool}:mw P lo Q k ops (some g) o l fs tm σ=((g=true→mw P lo Q k ops (some true) o l fs tm σ)∧(g=false→mw P lo Q k ops (some false) o l fs tm σ)):=by cases g<;>simp [mw]
def r8 (P:Program) (lo:Ctx) (Q:cb→St→Prop) (k:List KI) (ops:Array Oper) (wr:List Nat) (d:Option Tmp) (l:List Oper) (fs:List Fp) (tm:List ae) (σ m:ai) (f:ae) (args:List ae):Prop :=
 ∃ r dh,aq P f args m (fun r' σ'=>r'=r∧σ' = dh)∧eW wr 0 dh m∧iq P lo Q k ops l fs (put tm d r) (dD wr 0 dh σ)
theorem Yoc {d:Option Tmp} {fo:Operand} {args:Array Operand} {ts:Array TypeId} {t:TypeId} {p:String} {a:Array Edge} {g:Option (Nat×Bool)} :
  eT P lo Q k ops f ⟨d, .call ⟨.value fo,args,ts⟩,t,p,a,g⟩ l fs tm σ m=r8 P lo Q k ops f.wr d l fs tm σ m (ev tm fo) (args.toList.map (ev tm)):=(Eq.refl _).trans rfl
theorem zK (wr:List Nat):∀ (σ:ai) (i:Nat),eW wr i σ σ
 | [],_=>trivial
 | _ :: r,i=>⟨.inr rfl,zK wr r (i+1)⟩
theorem Rz {wr:List Nat} {i:Nat}:eW wr i σ σ=True:=eq_true (zK wr σ i)
theorem Kn:∀ (a b:ai) (i:Nat),dD [] i a b=b
 | [],_,_=>by simp [dD]
 | _ :: _,[],_=>by simp [dD]
 | a :: ck,b :: bs,i=>by simp [dD,Kn ck bs (i+1)]
theorem OL {wr:List Nat} {d:Option Tmp} {r:ae}:en P lo Q k ops wr d l fs tm σ m (some (r,dh))=(eW wr 0 dh m∧iq P lo Q k ops l fs (put tm d r) (dD wr 0 dh σ)):=by
 simp only [en,aE,bu]
 apply propext
 constructor
 ·rintro ⟨r',σ',⟨rfl,rfl⟩,h⟩;exact h
 ·intro h;exact ⟨r,dh,⟨rfl,rfl⟩,h⟩
theorem Yjs {d:Option Tmp} {r:ae}:en P lo Q k ops [] d l fs tm σ m (some (r,m))=iq P lo Q k ops l fs (put tm d r) σ:=by
 rw [OL,Kn,Rz,true_and]
theorem LK {wr:List Nat} {d:Option Tmp}:en P lo Q k ops wr d l fs tm σ m none=False:=by simp [en]
theorem V4 {c:Prop} [Decidable c] {x:Option (ae×ai)} {wr:List Nat} {d:Option Tmp}:en P lo Q k ops wr d l fs tm σ m (if c then x else none)=(c∧en P lo Q k ops wr d l fs tm σ m x):=by
 by_cases h:c<;>simp [h,LK]
theorem Yxu {c:Prop} [Decidable c] {x:c→Option (ae×ai)} {wr:List Nat} {d:Option Tmp}:en P lo Q k ops wr d l fs tm σ m (if h:c then x h else none) = ∃ h:c,en P lo Q k ops wr d l fs tm σ m (x h):=by
 by_cases h:c<;>simp [h,LK]
theorem XZ {nm:Option Nat} {wr hd:List Nat} {σ:ai}:dw ⟨nm,wr,hd⟩ σ=eF (fun b=>!hd.contains b) 0 σ:=rfl
theorem Yv7 {vis:Nat→Bool} {i:Nat}:eF vis i []=[]:=rfl
theorem Ysb {vis:Nat→Bool} {i:Nat} {b:Option bE} {σ:ai}:eF vis i (b :: σ)=(if vis i=true then b else none) :: eF vis (i+1) σ:=rfl
theorem Yy0 {wr:List Nat} {i:Nat}:eW wr i [] []=True:=rfl
theorem Ypc {wr:List Nat} {i:Nat} {a b:Option bE} {ck bs:ai}:eW wr i (a :: ck) (b :: bs)=((wr.contains i=true∨a=b)∧eW wr (i+1) ck bs):=rfl
theorem Yzi {wr:List Nat} {i:Nat} {a:Option bE} {ck bs:ai}:eW wr i (a :: ck) (a :: bs)=eW wr (i+1) ck bs:=by simp [eW]
theorem Yy7 {wr:List Nat} {i:Nat}:dD wr i [] []=[]:=rfl
theorem Yru {wr:List Nat} {i:Nat} {a b:Option bE} {ck bs:ai}:dD wr i (a :: ck) (b :: bs)=(if wr.contains i=true then a else b) :: dD wr (i+1) ck bs:=rfl
theorem Yrq {c:Nat} {wr hd:List Nat} {σ:ai}:Fp.name ⟨some c,wr,hd⟩ σ=c:=rfl
theorem Yoa {wr hd:List Nat} {σ:ai}:Fp.name ⟨none,wr,hd⟩ σ = σ.length:=rfl
theorem Yit:Fp.no.wr=[]:=rfl
theorem Ww {σ:ai}:Fp.no.name σ = σ.length:=rfl
theorem nQ {d:Option Tmp} {g:FuncId} {first captured args args':List ae} {r:ae} {wr:List Nat} (hc:aJ P g args' r) (hp:kz (among []) m args' (first++args++captured)) (hl:bx 0 args')
  (h:iq P lo Q k ops l fs (put tm d r) (dD wr 0 m σ)):r8 P lo Q k ops wr d l fs tm σ m (.fn g first captured) args :=
 ⟨r,m,aq.bU [] hc hp hl ⟨rfl,by rw [jd];split<;>rfl⟩,zK wr m 0,h⟩
end
section
variable {P:Program} {lo:Ctx} {Q:cb→St→Prop} {k:List KI} {ops:Array Oper} {l:List Oper} {f:Fp} {fs:List Fp} {tm:List ae} {σ m:ai} {d:Option Tmp} {tt:TypeId} {ps:String} {af:Array Edge} {gg:Option (Nat×Bool)}
theorem WV {bi:Builtin} {args:Array Operand} {ts:Array TypeId}:eT P lo Q k ops f ⟨d, .call ⟨.builtin bi,args,ts⟩,tt,ps,af,gg⟩ l fs tm σ m=en P lo Q k ops f.wr d l fs tm σ m (cY P m (f.name σ) (ev tm) (.call ⟨.builtin bi,args,ts⟩)):=(Eq.refl _).trans rfl
theorem Yr7 {fu:FuncId} {a c:Array Operand}:eT P lo Q k ops f ⟨d, .makeFunc (.func fu) a c,tt,ps,af,gg⟩ l fs tm σ m=en P lo Q k ops f.wr d l fs tm σ m (cY P m (f.name σ) (ev tm) (.makeFunc (.func fu) a c)):=(Eq.refl _).trans rfl
theorem Yqy {x:Operand}:eT P lo Q k ops f ⟨d, .move x,tt,ps,af,gg⟩ l fs tm σ m=en P lo Q k ops f.wr d l fs tm σ m (cY P m (f.name σ) (ev tm) (.move x)):=(Eq.refl _).trans rfl
theorem YP {x:Operand}:eT P lo Q k ops f ⟨d, .assign x,tt,ps,af,gg⟩ l fs tm σ m=en P lo Q k ops f.wr d l fs tm σ m (cY P m (f.name σ) (ev tm) (.assign x)):=(Eq.refl _).trans rfl
theorem Yny {x:Operand} {y:Operand} {z:Operand}:eT P lo Q k ops f ⟨d, .pick x y z,tt,ps,af,gg⟩ l fs tm σ m=en P lo Q k ops f.wr d l fs tm σ m (cY P m (f.name σ) (ev tm) (.pick x y z)):=(Eq.refl _).trans rfl
theorem Zz {t:TypeId}:eT P lo Q k ops f ⟨d, .alloc t,tt,ps,af,gg⟩ l fs tm σ m=en P lo Q k ops f.wr d l fs tm σ m (cY P m (f.name σ) (ev tm) (.alloc t)):=(Eq.refl _).trans rfl
theorem Yvy {t:TypeId} {x:Operand}:eT P lo Q k ops f ⟨d, .box t x,tt,ps,af,gg⟩ l fs tm σ m=en P lo Q k ops f.wr d l fs tm σ m (cY P m (f.name σ) (ev tm) (.box t x)):=(Eq.refl _).trans rfl
theorem Ymc {t:TypeId} {pp:Array (Nat×Operand)}:eT P lo Q k ops f ⟨d, .build t pp,tt,ps,af,gg⟩ l fs tm σ m=en P lo Q k ops f.wr d l fs tm σ m (cY P m (f.name σ) (ev tm) (.build t pp)):=(Eq.refl _).trans rfl
theorem Zo1 {t:TypeId} {q:Nat} {pp:Array (Nat×Operand)}:eT P lo Q k ops f ⟨d, .buildSlice t q pp,tt,ps,af,gg⟩ l fs tm σ m=en P lo Q k ops f.wr d l fs tm σ m (cY P m (f.name σ) (ev tm) (.buildSlice t q pp)):=(Eq.refl _).trans rfl
theorem Yo8 {t:TypeId} {x:Operand}:eT P lo Q k ops f ⟨d, .load t x,tt,ps,af,gg⟩ l fs tm σ m=en P lo Q k ops f.wr d l fs tm σ m (cY P m (f.name σ) (ev tm) (.load t x)):=(Eq.refl _).trans rfl
theorem Ykj {t:TypeId} {x:Operand} {y:Operand}:eT P lo Q k ops f ⟨d, .store t x y,tt,ps,af,gg⟩ l fs tm σ m=en P lo Q k ops f.wr d l fs tm σ m (cY P m (f.name σ) (ev tm) (.store t x y)):=(Eq.refl _).trans rfl
theorem Zux {x:Operand}:eT P lo Q k ops f ⟨d, .nilCheck x,tt,ps,af,gg⟩ l fs tm σ m=en P lo Q k ops f.wr d l fs tm σ m (cY P m (f.name σ) (ev tm) (.nilCheck x)):=(Eq.refl _).trans rfl
theorem Yla {op:BinOp} {t:TypeId} {x:Operand} {y:Operand} {u:TypeId}:eT P lo Q k ops f ⟨d, .binOp op t x y u,tt,ps,af,gg⟩ l fs tm σ m=en P lo Q k ops f.wr d l fs tm σ m (cY P m (f.name σ) (ev tm) (.binOp op t x y u)):=(Eq.refl _).trans rfl
theorem Ypi {uo:UnOp} {t:TypeId} {x:Operand}:eT P lo Q k ops f ⟨d, .unOp uo t x,tt,ps,af,gg⟩ l fs tm σ m=en P lo Q k ops f.wr d l fs tm σ m (cY P m (f.name σ) (ev tm) (.unOp uo t x)):=(Eq.refl _).trans rfl
theorem Zys {t:TypeId} {u:TypeId} {x:Operand}:eT P lo Q k ops f ⟨d, .convert t u x,tt,ps,af,gg⟩ l fs tm σ m=en P lo Q k ops f.wr d l fs tm σ m (cY P m (f.name σ) (ev tm) (.convert t u x)):=(Eq.refl _).trans rfl
theorem Zj9 {t:TypeId} {x:Operand}:eT P lo Q k ops f ⟨d, .makeInterface t x,tt,ps,af,gg⟩ l fs tm σ m=en P lo Q k ops f.wr d l fs tm σ m (cY P m (f.name σ) (ev tm) (.makeInterface t x)):=(Eq.refl _).trans rfl
theorem Yj0 {t:TypeId} {x:Operand} {ox:Option Operand} {oy:Option Operand} {oz:Option Operand}:eT P lo Q k ops f ⟨d, .slice t x ox oy oz,tt,ps,af,gg⟩ l fs tm σ m=en P lo Q k ops f.wr d l fs tm σ m (cY P m (f.name σ) (ev tm) (.slice t x ox oy oz)):=(Eq.refl _).trans rfl
theorem Zsb {t:TypeId} {x:Operand} {q:Nat}:eT P lo Q k ops f ⟨d, .fieldAddr t x q,tt,ps,af,gg⟩ l fs tm σ m=en P lo Q k ops f.wr d l fs tm σ m (cY P m (f.name σ) (ev tm) (.fieldAddr t x q)):=(Eq.refl _).trans rfl
theorem Ylx {t:TypeId} {x:Operand} {q:Nat}:eT P lo Q k ops f ⟨d, .field t x q,tt,ps,af,gg⟩ l fs tm σ m=en P lo Q k ops f.wr d l fs tm σ m (cY P m (f.name σ) (ev tm) (.field t x q)):=(Eq.refl _).trans rfl
theorem Zs4 {t:TypeId} {x:Operand} {y:Operand}:eT P lo Q k ops f ⟨d, .indexAddr t x y,tt,ps,af,gg⟩ l fs tm σ m=en P lo Q k ops f.wr d l fs tm σ m (cY P m (f.name σ) (ev tm) (.indexAddr t x y)):=(Eq.refl _).trans rfl
theorem Yl9 {t:TypeId} {x:Operand} {y:Operand}:eT P lo Q k ops f ⟨d, .index t x y,tt,ps,af,gg⟩ l fs tm σ m=en P lo Q k ops f.wr d l fs tm σ m (cY P m (f.name σ) (ev tm) (.index t x y)):=(Eq.refl _).trans rfl
theorem Xk {t:TypeId} {x:Operand} {y:Operand} {b:Bool}:eT P lo Q k ops f ⟨d, .lookup t x y b,tt,ps,af,gg⟩ l fs tm σ m=en P lo Q k ops f.wr d l fs tm σ m (cY P m (f.name σ) (ev tm) (.lookup t x y b)):=(Eq.refl _).trans rfl
theorem Zqx {t:TypeId} {x:Operand} {y:Operand} {z:Operand}:eT P lo Q k ops f ⟨d, .mapUpdate t x y z,tt,ps,af,gg⟩ l fs tm σ m=en P lo Q k ops f.wr d l fs tm σ m (cY P m (f.name σ) (ev tm) (.mapUpdate t x y z)):=(Eq.refl _).trans rfl
theorem Yj3 {t:TypeId} {x:Operand}:eT P lo Q k ops f ⟨d, .range t x,tt,ps,af,gg⟩ l fs tm σ m=en P lo Q k ops f.wr d l fs tm σ m (cY P m (f.name σ) (ev tm) (.range t x)):=(Eq.refl _).trans rfl
theorem Yrz {x:Operand} {b:Bool}:eT P lo Q k ops f ⟨d, .next x b,tt,ps,af,gg⟩ l fs tm σ m=en P lo Q k ops f.wr d l fs tm σ m (cY P m (f.name σ) (ev tm) (.next x b)):=(Eq.refl _).trans rfl
theorem Zp0 {x:Operand} {t:TypeId} {u:TypeId} {b:Bool}:eT P lo Q k ops f ⟨d, .typeAssert x t u b,tt,ps,af,gg⟩ l fs tm σ m=en P lo Q k ops f.wr d l fs tm σ m (cY P m (f.name σ) (ev tm) (.typeAssert x t u b)):=(Eq.refl _).trans rfl
theorem WJ {x:Operand} {q:Nat}:eT P lo Q k ops f ⟨d, .extract x q,tt,ps,af,gg⟩ l fs tm σ m=en P lo Q k ops f.wr d l fs tm σ m (cY P m (f.name σ) (ev tm) (.extract x q)):=(Eq.refl _).trans rfl
theorem Zpw {t:TypeId} {x:Operand} {y:Operand}:eT P lo Q k ops f ⟨d, .makeSlice t x y,tt,ps,af,gg⟩ l fs tm σ m=en P lo Q k ops f.wr d l fs tm σ m (cY P m (f.name σ) (ev tm) (.makeSlice t x y)):=(Eq.refl _).trans rfl
theorem WR {t:TypeId} {ox:Option Operand}:eT P lo Q k ops f ⟨d, .makeMap t ox,tt,ps,af,gg⟩ l fs tm σ m=en P lo Q k ops f.wr d l fs tm σ m (cY P m (f.name σ) (ev tm) (.makeMap t ox)):=(Eq.refl _).trans rfl
end
attribute [go_sem high] Yug YE Yoy Yoc WB Tq Yzi Rz Yjs
attribute [go_sem] Int.toNat_zero decide_eq_true_eq decide_eq_false_iff_not Bool.not_eq_true Bool.not_eq_false Decidable.not_not List.contains_cons List.contains_nil
attribute [go_sem] z6 zX Wp Yw4 Ya Kn LK V4 Yxu Yv7 Ysb Yy0 Yy7 Yru Yrq Yoa Yit Ww WV Yr7 Yqy YP Yny Zz Yvy Ymc Zo1 Yo8 Ykj Zux Yla Ypi Zys Zj9 Yj0 Zsb Ylx Zs4 Yl9 Xk Zqx Yj3 Yrz Zp0 WJ Zpw WR List.tail_cons List.tail_nil
attribute [go_sem low] Yw8 XZ OL Ypc
end Go.cV
