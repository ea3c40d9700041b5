/- Part 26 of my own framework and of the walks of functions: AcsA. -/
import Derived.Test.YtpgnahcljlclcaaGreatOwn25
set_option linter.unusedVariables false
set_option linter.unusedSectionVars false
set_option linter.unusedSimpArgs false
namespace Go.Abs
open Go
def mkT (n:Nat) (l:List (Nat×AVal)):List AVal:=l.foldr (fun p t=>t.set p.1 p.2) (List.replicate n .undef)
theorem Zf1 {n:Nat}:mkT n []=List.replicate n .undef:=rfl
theorem Zd7 {n i:Nat} {v:AVal} {l:List (Nat×AVal)}:mkT n ((i,v) :: l)=(mkT n l).set i v:=rfl
def drawG (P:Program) (lo:Ctx) (Q:AExit→St→Prop) (k:List KI) (ops:Array Oper) (g:Option Bool) (o:Oper) (l:List Oper) (fs:List Fp) (tm:List AVal) (σ:Store):Prop :=
 ∃ g',g=some g'∧(g'=false→drawK P lo Q k ops l fs.tail (put tm o.dst gone) σ) ∧
   (g'=true→∃ r σ1,DoOp P o.op tm (maskF (fs.headD .no) σ) ((fs.headD .no).name σ) r σ1∧sameO (fs.headD .no).wr 0 σ1 (maskF (fs.headD .no) σ) ∧
    drawK P lo Q k ops l fs.tail (put tm o.dst r) (mergeW (fs.headD .no).wr 0 σ1 σ))
def drawO (P:Program) (lo:Ctx) (Q:AExit→St→Prop) (k:List KI) (ops:Array Oper) (f:Fp) (o:Oper) (l:List Oper) (fs:List Fp) (tm:List AVal) (σ m:Store):Prop :=
 ∃ r σ1,DoOp P o.op tm m (f.name σ) r σ1∧sameO f.wr 0 σ1 m∧drawK P lo Q k ops l fs (put tm o.dst r) (mergeW f.wr 0 σ1 σ)
def drawR (P:Program) (lo:Ctx) (Q:AExit→St→Prop) (k:List KI) (ops:Array Oper) (wr:List Nat) (d:Option Tmp) (l:List Oper) (fs:List Fp) (tm:List AVal) (σ m:Store) (x:Option (AVal×Store)):Prop :=
 ∃ r σ1,x=some (r,σ1)∧sameO wr 0 σ1 m∧drawK P lo Q k ops l fs (put tm d r) (mergeW wr 0 σ1 σ)
section
variable {P:Program} {lo:Ctx} {Q:AExit→St→Prop} {k:List KI} {ops:Array Oper} {o:Oper} {l:List Oper} {f:Fp} {fs:List Fp} {tm:List AVal} {σ σ1 m:Store}
theorem Ytn:drawK P lo Q k ops [] fs tm σ=EvK P lo Q k .normal ⟨tm,σ⟩:=by cases fs<;>rfl
theorem Yqz:drawK P lo Q k ops (o :: l) (f :: fs) tm σ=drawG P lo Q k ops (gdA ops tm o) o l (f :: fs) tm σ:=(Eq.refl _).trans rfl
theorem Ybi:drawK P lo Q k ops (o :: l) [] tm σ=drawG P lo Q k ops (gdA ops tm o) o l [] tm σ:=(Eq.refl _).trans rfl
theorem Ynk:drawG P lo Q k ops (some true) o l (f :: fs) tm σ=drawO P lo Q k ops f o l fs tm σ (maskF f σ):=by simp [drawG,drawO]
theorem Zji (vis:Nat→Bool) (h:∀ b,vis b=true):∀ (σ:Store) (i:Nat),maskS vis i σ = σ
 | [],_=>rfl
 | b :: r,i=>by simp [maskS,h i,Zji vis h r (i+1)]
theorem Ztr {σ:Store}:maskF Fp.no σ = σ:=Zji _ (fun b=>by simp [Fp.no]) σ 0
theorem Zws {nm:Option Nat} {wr:List Nat} {σ:Store}:maskF ⟨nm,wr,[]⟩ σ = σ:=Zji _ (fun b=>by simp) σ 0
theorem Ydh:drawG P lo Q k ops (some true) o l [] tm σ=drawO P lo Q k ops .no o l [] tm σ σ:=by simp [drawG,drawO,Ztr]
theorem Ylx:drawG P lo Q k ops (some false) o l fs tm σ=drawK P lo Q k ops l fs.tail (put tm o.dst gone) σ:=by simp [drawG]
theorem Ys8 {g:Bool}:drawG P lo Q k ops (some g) o l fs tm σ=((g=true→drawG P lo Q k ops (some true) o l fs tm σ)∧(g=false→drawG P lo Q k ops (some false) o l fs tm σ)):=by cases g<;>simp [drawG]
def drawC (P:Program) (lo:Ctx) (Q:AExit→St→Prop) (k:List KI) (ops:Array Oper) (wr:List Nat) (d:Option Tmp) (l:List Oper) (fs:List Fp) (tm:List AVal) (σ m:Store) (f:AVal) (args:List AVal):Prop :=
 ∃ r σ1,VCall P f args m (fun r' σ'=>r'=r∧σ' = σ1)∧sameO wr 0 σ1 m∧drawK P lo Q k ops l fs (put tm d r) (mergeW wr 0 σ1 σ)
theorem Ylg {d:Option Tmp} {fo:Operand} {args:Array Operand} {ts:Array TypeId} {t:TypeId} {p:String} {a:Array Edge} {g:Option (Nat×Bool)} :
  drawO P lo Q k ops f ⟨d, .call ⟨.value fo,args,ts⟩,t,p,a,g⟩ l fs tm σ m=drawC P lo Q k ops f.wr d l fs tm σ m (ev tm fo) (args.toList.map (ev tm)):=(Eq.refl _).trans rfl
theorem Zg6 (wr:List Nat):∀ (σ:Store) (i:Nat),sameO wr i σ σ
 | [],_=>trivial
 | _ :: r,i=>⟨.inr rfl,Zg6 wr r (i+1)⟩
theorem Zlb {wr:List Nat} {i:Nat}:sameO wr i σ σ=True:=eq_true (Zg6 wr σ i)
theorem Zjf:∀ (a b:Store) (i:Nat),mergeW [] i a b=b
 | [],_,_=>by simp [mergeW]
 | _ :: _,[],_=>by simp [mergeW]
 | a :: as_,b :: bs,i=>by simp [mergeW,Zjf as_ bs (i+1)]
theorem Zy9 {wr:List Nat} {d:Option Tmp} {r:AVal}:drawR P lo Q k ops wr d l fs tm σ m (some (r,σ1))=(sameO wr 0 σ1 m∧drawK P lo Q k ops l fs (put tm d r) (mergeW wr 0 σ1 σ)):=by
 simp only [drawR,Option.some.injEq,Prod.mk.injEq]
 apply propext
 constructor
 ·rintro ⟨r',σ',⟨rfl,rfl⟩,h⟩;exact h
 ·intro h;exact ⟨r,σ1,⟨rfl,rfl⟩,h⟩
theorem Yg0 {d:Option Tmp} {r:AVal}:drawR P lo Q k ops [] d l fs tm σ m (some (r,m))=drawK P lo Q k ops l fs (put tm d r) σ:=by
 rw [Zy9,Zjf,Zlb,true_and]
theorem Zt7 {wr:List Nat} {d:Option Tmp}:drawR P lo Q k ops wr d l fs tm σ m none=False:=by simp [drawR]
theorem Yui {c:Prop} [Decidable c] {x:Option (AVal×Store)} {wr:List Nat} {d:Option Tmp}:drawR P lo Q k ops wr d l fs tm σ m (if c then x else none)=(c∧drawR P lo Q k ops wr d l fs tm σ m x):=by
 by_cases h:c<;>simp [h,Zt7]
theorem Yrd {c:Prop} [Decidable c] {x:c→Option (AVal×Store)} {wr:List Nat} {d:Option Tmp}:drawR P lo Q k ops wr d l fs tm σ m (if h:c then x h else none) = ∃ h:c,drawR P lo Q k ops wr d l fs tm σ m (x h):=by
 by_cases h:c<;>simp [h,Zt7]
theorem Yaz {nm:Option Nat} {wr hd:List Nat} {σ:Store}:maskF ⟨nm,wr,hd⟩ σ=maskS (fun b=>!hd.contains b) 0 σ:=rfl
theorem Yq0 {vis:Nat→Bool} {i:Nat}:maskS vis i []=[]:=rfl
theorem Yjt {vis:Nat→Bool} {i:Nat} {b:Option Blk} {σ:Store}:maskS vis i (b :: σ)=(if vis i=true then b else none) :: maskS vis (i+1) σ:=rfl
theorem Ysk {wr:List Nat} {i:Nat}:sameO wr i [] []=True:=rfl
theorem Ykm {wr:List Nat} {i:Nat} {a b:Option Blk} {as_ bs:Store}:sameO wr i (a :: as_) (b :: bs)=((wr.contains i=true∨a=b)∧sameO wr (i+1) as_ bs):=rfl
theorem Yud {wr:List Nat} {i:Nat} {a:Option Blk} {as_ bs:Store}:sameO wr i (a :: as_) (a :: bs)=sameO wr (i+1) as_ bs:=by simp [sameO]
theorem Yo6 {wr:List Nat} {i:Nat}:mergeW wr i [] []=[]:=rfl
theorem Ymh {wr:List Nat} {i:Nat} {a b:Option Blk} {as_ bs:Store}:mergeW wr i (a :: as_) (b :: bs)=(if wr.contains i=true then a else b) :: mergeW wr (i+1) as_ bs:=rfl
theorem Yj9 {c:Nat} {wr hd:List Nat} {σ:Store}:Fp.name ⟨some c,wr,hd⟩ σ=c:=rfl
theorem Ymq {wr hd:List Nat} {σ:Store}:Fp.name ⟨none,wr,hd⟩ σ = σ.length:=rfl
theorem Yfb:Fp.no.wr=[]:=rfl
theorem Zwf {σ:Store}:Fp.no.name σ = σ.length:=rfl
theorem Zar {d:Option Tmp} {g:FuncId} {first captured args args':List AVal} {r:AVal} {wr:List Nat} (hc:CallEq P g args' r) (hp:pTL (among []) m args' (first++args++captured)) (hl:lowL 0 args')
  (h:drawK P lo Q k ops l fs (put tm d r) (mergeW wr 0 m σ)):drawC P lo Q k ops wr d l fs tm σ m (.fn g first captured) args :=
 ⟨r,m,VCall.isoT [] hc hp hl ⟨rfl,by rw [Zah];split<;>rfl⟩,Zg6 wr m 0,h⟩
end
section
variable {P:Program} {lo:Ctx} {Q:AExit→St→Prop} {k:List KI} {ops:Array Oper} {l:List Oper} {f:Fp} {fs:List Fp} {tm:List AVal} {σ m:Store} {d:Option Tmp} {tt:TypeId} {ps:String} {af:Array Edge} {gg:Option (Nat×Bool)}
theorem Zvi {bi:Builtin} {args:Array Operand} {ts:Array TypeId}:drawO P lo Q k ops f ⟨d, .call ⟨.builtin bi,args,ts⟩,tt,ps,af,gg⟩ l fs tm σ m=drawR P lo Q k ops f.wr d l fs tm σ m (opE P m (f.name σ) (ev tm) (.call ⟨.builtin bi,args,ts⟩)):=(Eq.refl _).trans rfl
theorem Yn9 {fu:FuncId} {a c:Array Operand}:drawO P lo Q k ops f ⟨d, .makeFunc (.func fu) a c,tt,ps,af,gg⟩ l fs tm σ m=drawR P lo Q k ops f.wr d l fs tm σ m (opE P m (f.name σ) (ev tm) (.makeFunc (.func fu) a c)):=(Eq.refl _).trans rfl
theorem Yn0 {x:Operand}:drawO P lo Q k ops f ⟨d, .move x,tt,ps,af,gg⟩ l fs tm σ m=drawR P lo Q k ops f.wr d l fs tm σ m (opE P m (f.name σ) (ev tm) (.move x)):=(Eq.refl _).trans rfl
theorem Ycm {x:Operand}:drawO P lo Q k ops f ⟨d, .assign x,tt,ps,af,gg⟩ l fs tm σ m=drawR P lo Q k ops f.wr d l fs tm σ m (opE P m (f.name σ) (ev tm) (.assign x)):=(Eq.refl _).trans rfl
theorem Yjp {x:Operand} {y:Operand} {z:Operand}:drawO P lo Q k ops f ⟨d, .pick x y z,tt,ps,af,gg⟩ l fs tm σ m=drawR P lo Q k ops f.wr d l fs tm σ m (opE P m (f.name σ) (ev tm) (.pick x y z)):=(Eq.refl _).trans rfl
theorem Yia {t:TypeId}:drawO P lo Q k ops f ⟨d, .alloc t,tt,ps,af,gg⟩ l fs tm σ m=drawR P lo Q k ops f.wr d l fs tm σ m (opE P m (f.name σ) (ev tm) (.alloc t)):=(Eq.refl _).trans rfl
theorem Yp3 {t:TypeId} {x:Operand}:drawO P lo Q k ops f ⟨d, .box t x,tt,ps,af,gg⟩ l fs tm σ m=drawR P lo Q k ops f.wr d l fs tm σ m (opE P m (f.name σ) (ev tm) (.box t x)):=(Eq.refl _).trans rfl
theorem Ygb {t:TypeId} {pp:Array (Nat×Operand)}:drawO P lo Q k ops f ⟨d, .build t pp,tt,ps,af,gg⟩ l fs tm σ m=drawR P lo Q k ops f.wr d l fs tm σ m (opE P m (f.name σ) (ev tm) (.build t pp)):=(Eq.refl _).trans rfl
theorem Zma {t:TypeId} {q:Nat} {pp:Array (Nat×Operand)}:drawO P lo Q k ops f ⟨d, .buildSlice t q pp,tt,ps,af,gg⟩ l fs tm σ m=drawR P lo Q k ops f.wr d l fs tm σ m (opE P m (f.name σ) (ev tm) (.buildSlice t q pp)):=(Eq.refl _).trans rfl
theorem Ymg {t:TypeId} {x:Operand}:drawO P lo Q k ops f ⟨d, .load t x,tt,ps,af,gg⟩ l fs tm σ m=drawR P lo Q k ops f.wr d l fs tm σ m (opE P m (f.name σ) (ev tm) (.load t x)):=(Eq.refl _).trans rfl
theorem Ye6 {t:TypeId} {x:Operand} {y:Operand}:drawO P lo Q k ops f ⟨d, .store t x y,tt,ps,af,gg⟩ l fs tm σ m=drawR P lo Q k ops f.wr d l fs tm σ m (opE P m (f.name σ) (ev tm) (.store t x y)):=(Eq.refl _).trans rfl
theorem Zro {x:Operand}:drawO P lo Q k ops f ⟨d, .nilCheck x,tt,ps,af,gg⟩ l fs tm σ m=drawR P lo Q k ops f.wr d l fs tm σ m (opE P m (f.name σ) (ev tm) (.nilCheck x)):=(Eq.refl _).trans rfl
theorem Yga {op:BinOp} {t:TypeId} {x:Operand} {y:Operand} {u:TypeId}:drawO P lo Q k ops f ⟨d, .binOp op t x y u,tt,ps,af,gg⟩ l fs tm σ m=drawR P lo Q k ops f.wr d l fs tm σ m (opE P m (f.name σ) (ev tm) (.binOp op t x y u)):=(Eq.refl _).trans rfl
theorem Yjy {uo:UnOp} {t:TypeId} {x:Operand}:drawO P lo Q k ops f ⟨d, .unOp uo t x,tt,ps,af,gg⟩ l fs tm σ m=drawR P lo Q k ops f.wr d l fs tm σ m (opE P m (f.name σ) (ev tm) (.unOp uo t x)):=(Eq.refl _).trans rfl
theorem Zw6 {t:TypeId} {u:TypeId} {x:Operand}:drawO P lo Q k ops f ⟨d, .convert t u x,tt,ps,af,gg⟩ l fs tm σ m=drawR P lo Q k ops f.wr d l fs tm σ m (opE P m (f.name σ) (ev tm) (.convert t u x)):=(Eq.refl _).trans rfl
theorem Zio {t:TypeId} {x:Operand}:drawO P lo Q k ops f ⟨d, .makeInterface t x,tt,ps,af,gg⟩ l fs tm σ m=drawR P lo Q k ops f.wr d l fs tm σ m (opE P m (f.name σ) (ev tm) (.makeInterface t x)):=(Eq.refl _).trans rfl
theorem Ydv {t:TypeId} {x:Operand} {ox:Option Operand} {oy:Option Operand} {oz:Option Operand}:drawO P lo Q k ops f ⟨d, .slice t x ox oy oz,tt,ps,af,gg⟩ l fs tm σ m=drawR P lo Q k ops f.wr d l fs tm σ m (opE P m (f.name σ) (ev tm) (.slice t x ox oy oz)):=(Eq.refl _).trans rfl
theorem Zpc {t:TypeId} {x:Operand} {q:Nat}:drawO P lo Q k ops f ⟨d, .fieldAddr t x q,tt,ps,af,gg⟩ l fs tm σ m=drawR P lo Q k ops f.wr d l fs tm σ m (opE P m (f.name σ) (ev tm) (.fieldAddr t x q)):=(Eq.refl _).trans rfl
theorem Yfj {t:TypeId} {x:Operand} {q:Nat}:drawO P lo Q k ops f ⟨d, .field t x q,tt,ps,af,gg⟩ l fs tm σ m=drawR P lo Q k ops f.wr d l fs tm σ m (opE P m (f.name σ) (ev tm) (.field t x q)):=(Eq.refl _).trans rfl
theorem Znm {t:TypeId} {x:Operand} {y:Operand}:drawO P lo Q k ops f ⟨d, .indexAddr t x y,tt,ps,af,gg⟩ l fs tm σ m=drawR P lo Q k ops f.wr d l fs tm σ m (opE P m (f.name σ) (ev tm) (.indexAddr t x y)):=(Eq.refl _).trans rfl
theorem Ydo {t:TypeId} {x:Operand} {y:Operand}:drawO P lo Q k ops f ⟨d, .index t x y,tt,ps,af,gg⟩ l fs tm σ m=drawR P lo Q k ops f.wr d l fs tm σ m (opE P m (f.name σ) (ev tm) (.index t x y)):=(Eq.refl _).trans rfl
theorem Yba {t:TypeId} {x:Operand} {y:Operand} {b:Bool}:drawO P lo Q k ops f ⟨d, .lookup t x y b,tt,ps,af,gg⟩ l fs tm σ m=drawR P lo Q k ops f.wr d l fs tm σ m (opE P m (f.name σ) (ev tm) (.lookup t x y b)):=(Eq.refl _).trans rfl
theorem Zo3 {t:TypeId} {x:Operand} {y:Operand} {z:Operand}:drawO P lo Q k ops f ⟨d, .mapUpdate t x y z,tt,ps,af,gg⟩ l fs tm σ m=drawR P lo Q k ops f.wr d l fs tm σ m (opE P m (f.name σ) (ev tm) (.mapUpdate t x y z)):=(Eq.refl _).trans rfl
theorem Yds {t:TypeId} {x:Operand}:drawO P lo Q k ops f ⟨d, .range t x,tt,ps,af,gg⟩ l fs tm σ m=drawR P lo Q k ops f.wr d l fs tm σ m (opE P m (f.name σ) (ev tm) (.range t x)):=(Eq.refl _).trans rfl
theorem Ym2 {x:Operand} {b:Bool}:drawO P lo Q k ops f ⟨d, .next x b,tt,ps,af,gg⟩ l fs tm σ m=drawR P lo Q k ops f.wr d l fs tm σ m (opE P m (f.name σ) (ev tm) (.next x b)):=(Eq.refl _).trans rfl
theorem Zn5 {x:Operand} {t:TypeId} {u:TypeId} {b:Bool}:drawO P lo Q k ops f ⟨d, .typeAssert x t u b,tt,ps,af,gg⟩ l fs tm σ m=drawR P lo Q k ops f.wr d l fs tm σ m (opE P m (f.name σ) (ev tm) (.typeAssert x t u b)):=(Eq.refl _).trans rfl
theorem Zw4 {x:Operand} {q:Nat}:drawO P lo Q k ops f ⟨d, .extract x q,tt,ps,af,gg⟩ l fs tm σ m=drawR P lo Q k ops f.wr d l fs tm σ m (opE P m (f.name σ) (ev tm) (.extract x q)):=(Eq.refl _).trans rfl
theorem Znk {t:TypeId} {x:Operand} {y:Operand}:drawO P lo Q k ops f ⟨d, .makeSlice t x y,tt,ps,af,gg⟩ l fs tm σ m=drawR P lo Q k ops f.wr d l fs tm σ m (opE P m (f.name σ) (ev tm) (.makeSlice t x y)):=(Eq.refl _).trans rfl
theorem Zwa {t:TypeId} {ox:Option Operand}:drawO P lo Q k ops f ⟨d, .makeMap t ox,tt,ps,af,gg⟩ l fs tm σ m=drawR P lo Q k ops f.wr d l fs tm σ m (opE P m (f.name σ) (ev tm) (.makeMap t ox)):=(Eq.refl _).trans rfl
end
attribute [go_sem high] Ynk Ydh Ylx Ylg Zws Ztr Yud Zlb Yg0
attribute [go_sem] Int.toNat_zero decide_eq_true_eq decide_eq_false_iff_not Bool.not_eq_true Bool.not_eq_false Decidable.not_not List.contains_cons List.contains_nil
attribute [go_sem] Zf1 Zd7 Ytn Yqz Ybi Zjf Zt7 Yui Yrd Yq0 Yjt Ysk Yo6 Ymh Yj9 Ymq Yfb Zwf Zvi Yn9 Yn0 Ycm Yjp Yia Yp3 Ygb Zma Ymg Ye6 Zro Yga Yjy Zw6 Zio Ydv Zpc Yfj Znm Ydo Yba Zo3 Yds Ym2 Zn5 Zw4 Znk Zwa List.tail_cons List.tail_nil
attribute [go_sem low] Ys8 Yaz Zy9 Ykm
end Go.Abs
