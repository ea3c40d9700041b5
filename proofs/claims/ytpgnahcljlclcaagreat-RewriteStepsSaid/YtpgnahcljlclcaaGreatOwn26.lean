/- Part 26 of my own framework and of the walks of functions: AcsA. -/
import Derived.Test.YtpgnahcljlclcaaGreatOwn25
set_option linter.unusedVariables false
set_option linter.unusedSectionVars false
set_option linter.unusedSimpArgs false
namespace Go.Abs
open Go
def mkT (n:Nat) (l:List (Nat×AVal)):List AVal:=l.foldr (fun p t=>t.set p.1 p.2) (List.replicate n .undef)
theorem Zf8 {n:Nat}:mkT n []=List.replicate n .undef:=rfl
theorem Zdo {n i:Nat} {v:AVal} {l:List (Nat×AVal)}:mkT n ((i,v) :: l)=(mkT n l).set i v:=rfl
def drawG (P:Program) (lo:Ctx) (Q:AExit→St→Prop) (k:List KI) (ops:Array Oper) (g:Option Bool) (o:Oper) (l:List Oper) (fs:List Fp) (tm:List AVal) (σ:Store):Prop :=
 ∃ g',g=some g'∧(g'=false→drawK P lo Q k ops l fs.tail (put tm o.dst gone) σ) ∧
   (g'=true→∃ r σ1,DoOp P o.op tm (maskF (fs.headD .no) σ) ((fs.headD .no).name σ) r σ1∧sameO (fs.headD .no).wr 0 σ1 (maskF (fs.headD .no) σ) ∧
    drawK P lo Q k ops l fs.tail (put tm o.dst r) (mergeW (fs.headD .no).wr 0 σ1 σ))
def drawO (P:Program) (lo:Ctx) (Q:AExit→St→Prop) (k:List KI) (ops:Array Oper) (f:Fp) (o:Oper) (l:List Oper) (fs:List Fp) (tm:List AVal) (σ m:Store):Prop :=
 ∃ r σ1,DoOp P o.op tm m (f.name σ) r σ1∧sameO f.wr 0 σ1 m∧drawK P lo Q k ops l fs (put tm o.dst r) (mergeW f.wr 0 σ1 σ)
def drawR (P:Program) (lo:Ctx) (Q:AExit→St→Prop) (k:List KI) (ops:Array Oper) (wr:List Nat) (d:Option Tmp) (l:List Oper) (fs:List Fp) (tm:List AVal) (σ m:Store) (x:Option (AVal×Store)):Prop :=
 ∃ r σ1,x=some (r,σ1)∧sameO wr 0 σ1 m∧drawK P lo Q k ops l fs (put tm d r) (mergeW wr 0 σ1 σ)
section
variable {P:Program} {lo:Ctx} {Q:AExit→St→Prop} {k:List KI} {ops:Array Oper} {o:Oper} {l:List Oper} {f:Fp} {fs:List Fp} {tm:List AVal} {σ σ1 m:Store}
theorem Ywm:drawK P lo Q k ops [] fs tm σ=EvK P lo Q k .normal ⟨tm,σ⟩:=by cases fs<;>rfl
theorem Yrh:drawK P lo Q k ops (o :: l) (f :: fs) tm σ=drawG P lo Q k ops (gdA ops tm o) o l (f :: fs) tm σ:=(Eq.refl _).trans rfl
theorem Yar:drawK P lo Q k ops (o :: l) [] tm σ=drawG P lo Q k ops (gdA ops tm o) o l [] tm σ:=(Eq.refl _).trans rfl
theorem Ytz:drawG P lo Q k ops (some true) o l (f :: fs) tm σ=drawO P lo Q k ops f o l fs tm σ (maskF f σ):=by simp [drawG,drawO]
theorem Zkc (vis:Nat→Bool) (h:∀ b,vis b=true):∀ (σ:Store) (i:Nat),maskS vis i σ = σ
 | [],_=>rfl
 | b :: r,i=>by simp [maskS,h i,Zkc vis h r (i+1)]
theorem Zv0 {σ:Store}:maskF Fp.no σ = σ:=Zkc _ (fun b=>by simp [Fp.no]) σ 0
theorem Zym {nm:Option Nat} {wr:List Nat} {σ:Store}:maskF ⟨nm,wr,[]⟩ σ = σ:=Zkc _ (fun b=>by simp) σ 0
theorem Yc0:drawG P lo Q k ops (some true) o l [] tm σ=drawO P lo Q k ops .no o l [] tm σ σ:=by simp [drawG,drawO,Zv0]
theorem Yl8:drawG P lo Q k ops (some false) o l fs tm σ=drawK P lo Q k ops l fs.tail (put tm o.dst gone) σ:=by simp [drawG]
theorem Yrl {g:Bool}:drawG P lo Q k ops (some g) o l fs tm σ=((g=true→drawG P lo Q k ops (some true) o l fs tm σ)∧(g=false→drawG P lo Q k ops (some false) o l fs tm σ)):=by cases g<;>simp [drawG]
def drawC (P:Program) (lo:Ctx) (Q:AExit→St→Prop) (k:List KI) (ops:Array Oper) (wr:List Nat) (d:Option Tmp) (l:List Oper) (fs:List Fp) (tm:List AVal) (σ m:Store) (f:AVal) (args:List AVal):Prop :=
 ∃ r σ1,VCall P f args m (fun r' σ'=>r'=r∧σ' = σ1)∧sameO wr 0 σ1 m∧drawK P lo Q k ops l fs (put tm d r) (mergeW wr 0 σ1 σ)
theorem Ym4 {d:Option Tmp} {fo:Operand} {args:Array Operand} {ts:Array TypeId} {t:TypeId} {p:String} {a:Array Edge} {g:Option (Nat×Bool)} :
  drawO P lo Q k ops f ⟨d, .call ⟨.value fo,args,ts⟩,t,p,a,g⟩ l fs tm σ m=drawC P lo Q k ops f.wr d l fs tm σ m (ev tm fo) (args.toList.map (ev tm)):=(Eq.refl _).trans rfl
theorem Zg5 (wr:List Nat):∀ (σ:Store) (i:Nat),sameO wr i σ σ
 | [],_=>trivial
 | _ :: r,i=>⟨.inr rfl,Zg5 wr r (i+1)⟩
theorem Zly {wr:List Nat} {i:Nat}:sameO wr i σ σ=True:=eq_true (Zg5 wr σ i)
theorem Zke:∀ (a b:Store) (i:Nat),mergeW [] i a b=b
 | [],_,_=>by simp [mergeW]
 | _ :: _,[],_=>by simp [mergeW]
 | a :: as_,b :: bs,i=>by simp [mergeW,Zke as_ bs (i+1)]
theorem Zze {wr:List Nat} {d:Option Tmp} {r:AVal}:drawR P lo Q k ops wr d l fs tm σ m (some (r,σ1))=(sameO wr 0 σ1 m∧drawK P lo Q k ops l fs (put tm d r) (mergeW wr 0 σ1 σ)):=by
 simp only [drawR,Option.some.injEq,Prod.mk.injEq]
 apply propext
 constructor
 ·rintro ⟨r',σ',⟨rfl,rfl⟩,h⟩;exact h
 ·intro h;exact ⟨r,σ1,⟨rfl,rfl⟩,h⟩
theorem Yjo {d:Option Tmp} {r:AVal}:drawR P lo Q k ops [] d l fs tm σ m (some (r,m))=drawK P lo Q k ops l fs (put tm d r) σ:=by
 rw [Zze,Zke,Zly,true_and]
theorem Zro {wr:List Nat} {d:Option Tmp}:drawR P lo Q k ops wr d l fs tm σ m none=False:=by simp [drawR]
theorem Ywq {c:Prop} [Decidable c] {x:Option (AVal×Store)} {wr:List Nat} {d:Option Tmp}:drawR P lo Q k ops wr d l fs tm σ m (if c then x else none)=(c∧drawR P lo Q k ops wr d l fs tm σ m x):=by
 by_cases h:c<;>simp [h,Zro]
theorem Ys1 {c:Prop} [Decidable c] {x:c→Option (AVal×Store)} {wr:List Nat} {d:Option Tmp}:drawR P lo Q k ops wr d l fs tm σ m (if h:c then x h else none) = ∃ h:c,drawR P lo Q k ops wr d l fs tm σ m (x h):=by
 by_cases h:c<;>simp [h,Zro]
theorem Ybj {nm:Option Nat} {wr hd:List Nat} {σ:Store}:maskF ⟨nm,wr,hd⟩ σ=maskS (fun b=>!hd.contains b) 0 σ:=rfl
theorem Yqk {vis:Nat→Bool} {i:Nat}:maskS vis i []=[]:=rfl
theorem Yp9 {vis:Nat→Bool} {i:Nat} {b:Option Blk} {σ:Store}:maskS vis i (b :: σ)=(if vis i=true then b else none) :: maskS vis (i+1) σ:=rfl
theorem Ypy {wr:List Nat} {i:Nat}:sameO wr i [] []=True:=rfl
theorem Yni {wr:List Nat} {i:Nat} {a b:Option Blk} {as_ bs:Store}:sameO wr i (a :: as_) (b :: bs)=((wr.contains i=true∨a=b)∧sameO wr (i+1) as_ bs):=rfl
theorem Ywf {wr:List Nat} {i:Nat} {a:Option Blk} {as_ bs:Store}:sameO wr i (a :: as_) (a :: bs)=sameO wr (i+1) as_ bs:=by simp [sameO]
theorem Yu7 {wr:List Nat} {i:Nat}:mergeW wr i [] []=[]:=rfl
theorem Ym5 {wr:List Nat} {i:Nat} {a b:Option Blk} {as_ bs:Store}:mergeW wr i (a :: as_) (b :: bs)=(if wr.contains i=true then a else b) :: mergeW wr (i+1) as_ bs:=rfl
theorem Ymi {c:Nat} {wr hd:List Nat} {σ:Store}:Fp.name ⟨some c,wr,hd⟩ σ=c:=rfl
theorem Ylg {wr hd:List Nat} {σ:Store}:Fp.name ⟨none,wr,hd⟩ σ = σ.length:=rfl
theorem Yij:Fp.no.wr=[]:=rfl
theorem Zys {σ:Store}:Fp.no.name σ = σ.length:=rfl
theorem Zaq {d:Option Tmp} {g:FuncId} {first captured args args':List AVal} {r:AVal} {wr:List Nat} (hc:CallEq P g args' r) (hp:pTL (among []) m args' (first++args++captured)) (hl:lowL 0 args')
  (h:drawK P lo Q k ops l fs (put tm d r) (mergeW wr 0 m σ)):drawC P lo Q k ops wr d l fs tm σ m (.fn g first captured) args :=
 ⟨r,m,VCall.isoT [] hc hp hl ⟨rfl,by rw [Zad];split<;>rfl⟩,Zg5 wr m 0,h⟩
end
section
variable {P:Program} {lo:Ctx} {Q:AExit→St→Prop} {k:List KI} {ops:Array Oper} {l:List Oper} {f:Fp} {fs:List Fp} {tm:List AVal} {σ m:Store} {d:Option Tmp} {tt:TypeId} {ps:String} {af:Array Edge} {gg:Option (Nat×Bool)}
theorem Zyg {bi:Builtin} {args:Array Operand} {ts:Array TypeId}:drawO P lo Q k ops f ⟨d, .call ⟨.builtin bi,args,ts⟩,tt,ps,af,gg⟩ l fs tm σ m=drawR P lo Q k ops f.wr d l fs tm σ m (opE P m (f.name σ) (ev tm) (.call ⟨.builtin bi,args,ts⟩)):=(Eq.refl _).trans rfl
theorem Yl5 {fu:FuncId} {a c:Array Operand}:drawO P lo Q k ops f ⟨d, .makeFunc (.func fu) a c,tt,ps,af,gg⟩ l fs tm σ m=drawR P lo Q k ops f.wr d l fs tm σ m (opE P m (f.name σ) (ev tm) (.makeFunc (.func fu) a c)):=(Eq.refl _).trans rfl
theorem Yoq {x:Operand}:drawO P lo Q k ops f ⟨d, .move x,tt,ps,af,gg⟩ l fs tm σ m=drawR P lo Q k ops f.wr d l fs tm σ m (opE P m (f.name σ) (ev tm) (.move x)):=(Eq.refl _).trans rfl
theorem Ybe {x:Operand}:drawO P lo Q k ops f ⟨d, .assign x,tt,ps,af,gg⟩ l fs tm σ m=drawR P lo Q k ops f.wr d l fs tm σ m (opE P m (f.name σ) (ev tm) (.assign x)):=(Eq.refl _).trans rfl
theorem Yoy {x:Operand} {y:Operand} {z:Operand}:drawO P lo Q k ops f ⟨d, .pick x y z,tt,ps,af,gg⟩ l fs tm σ m=drawR P lo Q k ops f.wr d l fs tm σ m (opE P m (f.name σ) (ev tm) (.pick x y z)):=(Eq.refl _).trans rfl
theorem Yig {t:TypeId}:drawO P lo Q k ops f ⟨d, .alloc t,tt,ps,af,gg⟩ l fs tm σ m=drawR P lo Q k ops f.wr d l fs tm σ m (opE P m (f.name σ) (ev tm) (.alloc t)):=(Eq.refl _).trans rfl
theorem Yth {t:TypeId} {x:Operand}:drawO P lo Q k ops f ⟨d, .box t x,tt,ps,af,gg⟩ l fs tm σ m=drawR P lo Q k ops f.wr d l fs tm σ m (opE P m (f.name σ) (ev tm) (.box t x)):=(Eq.refl _).trans rfl
theorem Yi3 {t:TypeId} {pp:Array (Nat×Operand)}:drawO P lo Q k ops f ⟨d, .build t pp,tt,ps,af,gg⟩ l fs tm σ m=drawR P lo Q k ops f.wr d l fs tm σ m (opE P m (f.name σ) (ev tm) (.build t pp)):=(Eq.refl _).trans rfl
theorem Zn5 {t:TypeId} {q:Nat} {pp:Array (Nat×Operand)}:drawO P lo Q k ops f ⟨d, .buildSlice t q pp,tt,ps,af,gg⟩ l fs tm σ m=drawR P lo Q k ops f.wr d l fs tm σ m (opE P m (f.name σ) (ev tm) (.buildSlice t q pp)):=(Eq.refl _).trans rfl
theorem Yo1 {t:TypeId} {x:Operand}:drawO P lo Q k ops f ⟨d, .load t x,tt,ps,af,gg⟩ l fs tm σ m=drawR P lo Q k ops f.wr d l fs tm σ m (opE P m (f.name σ) (ev tm) (.load t x)):=(Eq.refl _).trans rfl
theorem Yg1 {t:TypeId} {x:Operand} {y:Operand}:drawO P lo Q k ops f ⟨d, .store t x y,tt,ps,af,gg⟩ l fs tm σ m=drawR P lo Q k ops f.wr d l fs tm σ m (opE P m (f.name σ) (ev tm) (.store t x y)):=(Eq.refl _).trans rfl
theorem Zt4 {x:Operand}:drawO P lo Q k ops f ⟨d, .nilCheck x,tt,ps,af,gg⟩ l fs tm σ m=drawR P lo Q k ops f.wr d l fs tm σ m (opE P m (f.name σ) (ev tm) (.nilCheck x)):=(Eq.refl _).trans rfl
theorem Yff {op:BinOp} {t:TypeId} {x:Operand} {y:Operand} {u:TypeId}:drawO P lo Q k ops f ⟨d, .binOp op t x y u,tt,ps,af,gg⟩ l fs tm σ m=drawR P lo Q k ops f.wr d l fs tm σ m (opE P m (f.name σ) (ev tm) (.binOp op t x y u)):=(Eq.refl _).trans rfl
theorem Yok {uo:UnOp} {t:TypeId} {x:Operand}:drawO P lo Q k ops f ⟨d, .unOp uo t x,tt,ps,af,gg⟩ l fs tm σ m=drawR P lo Q k ops f.wr d l fs tm σ m (opE P m (f.name σ) (ev tm) (.unOp uo t x)):=(Eq.refl _).trans rfl
theorem Zx1 {t:TypeId} {u:TypeId} {x:Operand}:drawO P lo Q k ops f ⟨d, .convert t u x,tt,ps,af,gg⟩ l fs tm σ m=drawR P lo Q k ops f.wr d l fs tm σ m (opE P m (f.name σ) (ev tm) (.convert t u x)):=(Eq.refl _).trans rfl
theorem Zix {t:TypeId} {x:Operand}:drawO P lo Q k ops f ⟨d, .makeInterface t x,tt,ps,af,gg⟩ l fs tm σ m=drawR P lo Q k ops f.wr d l fs tm σ m (opE P m (f.name σ) (ev tm) (.makeInterface t x)):=(Eq.refl _).trans rfl
theorem Yh5 {t:TypeId} {x:Operand} {ox:Option Operand} {oy:Option Operand} {oz:Option Operand}:drawO P lo Q k ops f ⟨d, .slice t x ox oy oz,tt,ps,af,gg⟩ l fs tm σ m=drawR P lo Q k ops f.wr d l fs tm σ m (opE P m (f.name σ) (ev tm) (.slice t x ox oy oz)):=(Eq.refl _).trans rfl
theorem Zpl {t:TypeId} {x:Operand} {q:Nat}:drawO P lo Q k ops f ⟨d, .fieldAddr t x q,tt,ps,af,gg⟩ l fs tm σ m=drawR P lo Q k ops f.wr d l fs tm σ m (opE P m (f.name σ) (ev tm) (.fieldAddr t x q)):=(Eq.refl _).trans rfl
theorem Yfl {t:TypeId} {x:Operand} {q:Nat}:drawO P lo Q k ops f ⟨d, .field t x q,tt,ps,af,gg⟩ l fs tm σ m=drawR P lo Q k ops f.wr d l fs tm σ m (opE P m (f.name σ) (ev tm) (.field t x q)):=(Eq.refl _).trans rfl
theorem Zpj {t:TypeId} {x:Operand} {y:Operand}:drawO P lo Q k ops f ⟨d, .indexAddr t x y,tt,ps,af,gg⟩ l fs tm σ m=drawR P lo Q k ops f.wr d l fs tm σ m (opE P m (f.name σ) (ev tm) (.indexAddr t x y)):=(Eq.refl _).trans rfl
theorem Yhc {t:TypeId} {x:Operand} {y:Operand}:drawO P lo Q k ops f ⟨d, .index t x y,tt,ps,af,gg⟩ l fs tm σ m=drawR P lo Q k ops f.wr d l fs tm σ m (opE P m (f.name σ) (ev tm) (.index t x y)):=(Eq.refl _).trans rfl
theorem Ydu {t:TypeId} {x:Operand} {y:Operand} {b:Bool}:drawO P lo Q k ops f ⟨d, .lookup t x y b,tt,ps,af,gg⟩ l fs tm σ m=drawR P lo Q k ops f.wr d l fs tm σ m (opE P m (f.name σ) (ev tm) (.lookup t x y b)):=(Eq.refl _).trans rfl
theorem Zqn {t:TypeId} {x:Operand} {y:Operand} {z:Operand}:drawO P lo Q k ops f ⟨d, .mapUpdate t x y z,tt,ps,af,gg⟩ l fs tm σ m=drawR P lo Q k ops f.wr d l fs tm σ m (opE P m (f.name σ) (ev tm) (.mapUpdate t x y z)):=(Eq.refl _).trans rfl
theorem Yg9 {t:TypeId} {x:Operand}:drawO P lo Q k ops f ⟨d, .range t x,tt,ps,af,gg⟩ l fs tm σ m=drawR P lo Q k ops f.wr d l fs tm σ m (opE P m (f.name σ) (ev tm) (.range t x)):=(Eq.refl _).trans rfl
theorem Ykv {x:Operand} {b:Bool}:drawO P lo Q k ops f ⟨d, .next x b,tt,ps,af,gg⟩ l fs tm σ m=drawR P lo Q k ops f.wr d l fs tm σ m (opE P m (f.name σ) (ev tm) (.next x b)):=(Eq.refl _).trans rfl
theorem Znr {x:Operand} {t:TypeId} {u:TypeId} {b:Bool}:drawO P lo Q k ops f ⟨d, .typeAssert x t u b,tt,ps,af,gg⟩ l fs tm σ m=drawR P lo Q k ops f.wr d l fs tm σ m (opE P m (f.name σ) (ev tm) (.typeAssert x t u b)):=(Eq.refl _).trans rfl
theorem Zy4 {x:Operand} {q:Nat}:drawO P lo Q k ops f ⟨d, .extract x q,tt,ps,af,gg⟩ l fs tm σ m=drawR P lo Q k ops f.wr d l fs tm σ m (opE P m (f.name σ) (ev tm) (.extract x q)):=(Eq.refl _).trans rfl
theorem Zp2 {t:TypeId} {x:Operand} {y:Operand}:drawO P lo Q k ops f ⟨d, .makeSlice t x y,tt,ps,af,gg⟩ l fs tm σ m=drawR P lo Q k ops f.wr d l fs tm σ m (opE P m (f.name σ) (ev tm) (.makeSlice t x y)):=(Eq.refl _).trans rfl
theorem Zyd {t:TypeId} {ox:Option Operand}:drawO P lo Q k ops f ⟨d, .makeMap t ox,tt,ps,af,gg⟩ l fs tm σ m=drawR P lo Q k ops f.wr d l fs tm σ m (opE P m (f.name σ) (ev tm) (.makeMap t ox)):=(Eq.refl _).trans rfl
end
attribute [go_sem high] Ytz Yc0 Yl8 Ym4 Zym Zv0 Ywf Zly Yjo
attribute [go_sem] Int.toNat_zero decide_eq_true_eq decide_eq_false_iff_not Bool.not_eq_true Bool.not_eq_false Decidable.not_not List.contains_cons List.contains_nil
attribute [go_sem] Zf8 Zdo Ywm Yrh Yar Zke Zro Ywq Ys1 Yqk Yp9 Ypy Yu7 Ym5 Ymi Ylg Yij Zys Zyg Yl5 Yoq Ybe Yoy Yig Yth Yi3 Zn5 Yo1 Yg1 Zt4 Yff Yok Zx1 Zix Yh5 Zpl Yfl Zpj Yhc Ydu Zqn Yg9 Ykv Znr Zy4 Zp2 Zyd List.tail_cons List.tail_nil
attribute [go_sem low] Yrl Ybj Zze Yni
end Go.Abs
