/- Part 26 of what the claim rests on. -/
import Derived.Test.YtfjbdamcmiglgaaGreatOwn25
set_option linter.all false
namespace Go.dq
open Go
def dV (n:Nat)(l:List (Nat×ah)):List ah:=l.foldr (λp t=>t.set p.1 p.2) (List.replicate n .undef)
theorem CH {n:Nat}:dV n []=List.replicate n .undef:=rfl
theorem Cz {n i:Nat}{v:ah}{l:List (Nat×ah)}:dV n ((i,v):: l)=(dV n l).set i v:=rfl
def rT (P:Program) (lo:Ctx) (Q:cB->St->Prop) (k:List KI) (ops:Array Oper) (g:Option Bool) (o:Oper) (l:List Oper) (fs:List Fp) (tm:List ah) (σ:av):Prop :=
 ∃ g',g=some g'/\(g'=false->iw P lo Q k ops l fs.tail (put tm o.dst gone) σ) /\
   (g'=true->∃r σ1,l7 P o.op tm (dW (fs.headD .no) σ) ((fs.headD .no).name σ) r σ1/\fG (fs.headD .no).wr 0 σ1 (dW (fs.headD .no) σ) /\
    iw P lo Q k ops l fs.tail (put tm o.dst r) (ew (fs.headD .no).wr 0 σ1 σ))
def jc (P:Program)(lo:Ctx)(Q:cB->St->Prop)(k:List KI)(ops:Array Oper)(f:Fp)(o:Oper)(l:List Oper)(fs:List Fp)(tm:List ah)(σ m:av):Prop :=
 ∃r σ1,l7 P o.op tm m (f.name σ) r σ1/\fG f.wr 0 σ1 m/\iw P lo Q k ops l fs (put tm o.dst r) (ew f.wr 0 σ1 σ)
def iE (P:Program)(lo:Ctx)(Q:cB->St->Prop)(k:List KI)(ops:Array Oper)(wr:List Nat)(d:Option Tmp)(l:List Oper)(fs:List Fp)(tm:List ah)(σ m:av)(x:Option (ah×av)):Prop :=
 ∃r σ1,x=some (r,σ1)/\fG wr 0 σ1 m/\iw P lo Q k ops l fs (put tm d r) (ew wr 0 σ1 σ)
section
variable {P:Program}{lo:Ctx}{Q:cB->St->Prop}{k:List KI}{ops:Array Oper}{o:Oper}{l:List Oper}{f:Fp}{fs:List Fp}{tm:List ah}{σ σ1 m:av}
theorem Xbc:iw P lo Q k ops [] fs tm σ=aC P lo Q k .normal ⟨tm,σ⟩:=by cases fs<;>rfl
theorem Ywx:iw P lo Q k ops (o :: l) (f :: fs) tm σ=rT P lo Q k ops (nc ops tm o) o l (f :: fs) tm σ:=(Eq.refl _).trans rfl
theorem Yjk:iw P lo Q k ops (o :: l) [] tm σ=rT P lo Q k ops (nc ops tm o) o l [] tm σ:=(Eq.refl _).trans rfl
theorem Ywt:rT P lo Q k ops (some true) o l (f :: fs) tm σ=jc P lo Q k ops f o l fs tm σ (dW f σ):=by simp[rT,jc]
theorem OP (vis:Nat->Bool)(h:∀b,vis b=true):∀(σ:av) (i:Nat),fB vis i σ = σ
 |[],_=>rfl
 |b :: r,i=>by simp[fB,h i,OP vis h r (i+1)]
theorem Y9 {σ:av}:dW Fp.no σ = σ:=OP _ (λb=>by simp[Fp.no]) σ 0
theorem Yci {nm:Option Nat}{wr:List Nat}{σ:av}:dW ⟨nm,wr,[]⟩ σ = σ:=OP _ (λb=>by simp) σ 0
theorem Yiv:rT P lo Q k ops (some true) o l [] tm σ=jc P lo Q k ops .no o l [] tm σ σ:=by simp[rT,jc,Y9]
theorem Yr5:rT P lo Q k ops (some false) o l fs tm σ=iw P lo Q k ops l fs.tail (put tm o.dst gone) σ:=by simp[rT]
def oN (P:Program)(lo:Ctx)(Q:cB->St->Prop)(k:List KI)(ops:Array Oper)(wr:List Nat)(d:Option Tmp)(l:List Oper)(fs:List Fp)(tm:List ah)(σ m:av)(f:ah)(args:List ah):Prop :=
 ∃r σ1,ak P f args m (λr' σ'=>r'=r/\σ' = σ1)/\fG wr 0 σ1 m/\iw P lo Q k ops l fs (put tm d r) (ew wr 0 σ1 σ)
theorem Yun {d:Option Tmp} {fo:Operand} {args:Array Operand} {ts:Array TypeId} {t:TypeId} {p:String} {a:Array Edge} {g:Option (Nat×Bool)} :
  jc P lo Q k ops f ⟨d,.call ⟨.value fo,args,ts⟩,t,p,a,g⟩ l fs tm σ m=oN P lo Q k ops f.wr d l fs tm σ m (ev tm fo) (args.toList.map (ev tm)):=(Eq.refl _).trans rfl
theorem Cr (wr:List Nat):∀(σ:av) (i:Nat),fG wr i σ σ
 |[],_=>trivial
 |_ :: r,i=>⟨.inr rfl,Cr wr r (i+1)⟩
theorem WL {wr:List Nat}{i:Nat}:fG wr i σ σ=True:=eq_true (Cr wr σ i)
theorem OW:∀(a b:av) (i:Nat),ew [] i a b=b
 |[],_,_=>by simp[ew]
 |_ :: _,[],_=>by simp[ew]
 |a :: cI,b :: bs,i=>by simp[ew,OW cI bs (i+1)]
theorem TK {wr:List Nat}{d:Option Tmp}{r:ah}:iE P lo Q k ops wr d l fs tm σ m (some (r,σ1))=(fG wr 0 σ1 m/\iw P lo Q k ops l fs (put tm d r) (ew wr 0 σ1 σ)):=by
 simp only[iE,aM,bM];apply propext;constructor
 ·rintro⟨r',σ',⟨rfl,rfl⟩,h⟩;exact h
 ·intro h;exact⟨r,σ1,⟨rfl,rfl⟩,h⟩
theorem Ynx {d:Option Tmp}{r:ah}:iE P lo Q k ops [] d l fs tm σ m (some (r,m))=iw P lo Q k ops l fs (put tm d r) σ:=by
 rw[TK,OW,WL,true_and]
theorem TV {wr:List Nat}{d:Option Tmp}:iE P lo Q k ops wr d l fs tm σ m none=False:=by simp[iE]
theorem Xbg {c:Prop}[Decidable c]{x:Option (ah×av)}{wr:List Nat}{d:Option Tmp}:iE P lo Q k ops wr d l fs tm σ m (if c then x else none)=(c/\iE P lo Q k ops wr d l fs tm σ m x):=by
 by_cases h:c<;>simp[h,TV]
theorem Yk0 {nm:Option Nat}{wr hd:List Nat}{σ:av}:dW ⟨nm,wr,hd⟩ σ=fB (λb=>!hd.contains b) 0 σ:=rfl
theorem Ywk {vis:Nat->Bool}{i:Nat}:fB vis i []=[]:=rfl
theorem Yul {vis:Nat->Bool}{i:Nat}{b:Option bS}{σ:av}:fB vis i (b :: σ)=(if vis i=true then b else none):: fB vis (i+1) σ:=rfl
theorem Yy8 {wr:List Nat}{i:Nat}:fG wr i [] []=True:=rfl
theorem Ytf {wr:List Nat}{i:Nat}{a b:Option bS}{cI bs:av}:fG wr i (a :: cI) (b :: bs)=((wr.contains i=true\/a=b)/\fG wr (i+1) cI bs):=rfl
theorem Xbi {wr:List Nat}{i:Nat}{a:Option bS}{cI bs:av}:fG wr i (a :: cI) (a :: bs)=fG wr (i+1) cI bs:=by simp[fG]
theorem Yx2 {wr:List Nat}{i:Nat}:ew wr i [] []=[]:=rfl
theorem Yus {wr:List Nat}{i:Nat}{a b:Option bS}{cI bs:av}:ew wr i (a :: cI) (b :: bs)=(if wr.contains i=true then a else b):: ew wr (i+1) cI bs:=rfl
theorem Yui {c:Nat}{wr hd:List Nat}{σ:av}:Fp.name ⟨some c,wr,hd⟩ σ=c:=rfl
theorem Yto {wr hd:List Nat}{σ:av}:Fp.name ⟨none,wr,hd⟩ σ = σ.length:=rfl
theorem Yox:Fp.no.wr=[]:=rfl
theorem Ybg {σ:av}:Fp.no.name σ = σ.length:=rfl
theorem jS {d:Option Tmp} {g:FuncId} {first captured args args':List ah} {r:ah} {wr:List Nat} (hc:az P g args' r) (hp:mD (among []) m args' (first++args++captured)) (hl:bG 0 args')
  (h:iw P lo Q k ops l fs (put tm d r) (ew wr 0 m σ)):oN P lo Q k ops wr d l fs tm σ m (.fn g first captured) args :=
 ⟨r,m,ak.bm [] hc hp hl ⟨rfl,by rw[eW];split<;>rfl⟩,Cr wr m 0,h⟩
end
section
variable {P:Program}{lo:Ctx}{Q:cB->St->Prop}{k:List KI}{ops:Array Oper}{l:List Oper}{f:Fp}{fs:List Fp}{tm:List ah}{σ m:av}{d:Option Tmp}{tt:TypeId}{ps:String}{af:Array Edge}{gg:Option (Nat×Bool)}
theorem Ydq {bi:Builtin}{args:Array Operand}{ts:Array TypeId}:jc P lo Q k ops f ⟨d,.call ⟨.builtin bi,args,ts⟩,tt,ps,af,gg⟩ l fs tm σ m=iE P lo Q k ops f.wr d l fs tm σ m (dJ P m (f.name σ) (ev tm) (.call ⟨.builtin bi,args,ts⟩)):=(Eq.refl _).trans rfl
theorem Yrm {fu:FuncId}{a c:Array Operand}:jc P lo Q k ops f ⟨d,.makeFunc (.func fu) a c,tt,ps,af,gg⟩ l fs tm σ m=iE P lo Q k ops f.wr d l fs tm σ m (dJ P m (f.name σ) (ev tm) (.makeFunc (.func fu) a c)):=(Eq.refl _).trans rfl
theorem Yut {x:Operand}:jc P lo Q k ops f ⟨d,.move x,tt,ps,af,gg⟩ l fs tm σ m=iE P lo Q k ops f.wr d l fs tm σ m (dJ P m (f.name σ) (ev tm) (.move x)):=(Eq.refl _).trans rfl
theorem Yek {x:Operand}:jc P lo Q k ops f ⟨d,.assign x,tt,ps,af,gg⟩ l fs tm σ m=iE P lo Q k ops f.wr d l fs tm σ m (dJ P m (f.name σ) (ev tm) (.assign x)):=(Eq.refl _).trans rfl
theorem Yts {x:Operand}{y:Operand}{z:Operand}:jc P lo Q k ops f ⟨d,.pick x y z,tt,ps,af,gg⟩ l fs tm σ m=iE P lo Q k ops f.wr d l fs tm σ m (dJ P m (f.name σ) (ev tm) (.pick x y z)):=(Eq.refl _).trans rfl
theorem Ymr {t:TypeId}:jc P lo Q k ops f ⟨d,.alloc t,tt,ps,af,gg⟩ l fs tm σ m=iE P lo Q k ops f.wr d l fs tm σ m (dJ P m (f.name σ) (ev tm) (.alloc t)):=(Eq.refl _).trans rfl
theorem Yp3 {t:TypeId}{pp:Array (Nat×Operand)}:jc P lo Q k ops f ⟨d,.build t pp,tt,ps,af,gg⟩ l fs tm σ m=iE P lo Q k ops f.wr d l fs tm σ m (dJ P m (f.name σ) (ev tm) (.build t pp)):=(Eq.refl _).trans rfl
theorem Zr4 {t:TypeId}{q:Nat}{pp:Array (Nat×Operand)}:jc P lo Q k ops f ⟨d,.buildSlice t q pp,tt,ps,af,gg⟩ l fs tm σ m=iE P lo Q k ops f.wr d l fs tm σ m (dJ P m (f.name σ) (ev tm) (.buildSlice t q pp)):=(Eq.refl _).trans rfl
theorem Yr7 {t:TypeId}{x:Operand}:jc P lo Q k ops f ⟨d,.load t x,tt,ps,af,gg⟩ l fs tm σ m=iE P lo Q k ops f.wr d l fs tm σ m (dJ P m (f.name σ) (ev tm) (.load t x)):=(Eq.refl _).trans rfl
theorem Yn0 {t:TypeId}{x:Operand}{y:Operand}:jc P lo Q k ops f ⟨d,.store t x y,tt,ps,af,gg⟩ l fs tm σ m=iE P lo Q k ops f.wr d l fs tm σ m (dJ P m (f.name σ) (ev tm) (.store t x y)):=(Eq.refl _).trans rfl
theorem Zwm {x:Operand}:jc P lo Q k ops f ⟨d,.nilCheck x,tt,ps,af,gg⟩ l fs tm σ m=iE P lo Q k ops f.wr d l fs tm σ m (dJ P m (f.name σ) (ev tm) (.nilCheck x)):=(Eq.refl _).trans rfl
theorem Yoj {op:BinOp}{t:TypeId}{x:Operand}{y:Operand}{u:TypeId}:jc P lo Q k ops f ⟨d,.binOp op t x y u,tt,ps,af,gg⟩ l fs tm σ m=iE P lo Q k ops f.wr d l fs tm σ m (dJ P m (f.name σ) (ev tm) (.binOp op t x y u)):=(Eq.refl _).trans rfl
theorem Yt8 {uo:UnOp}{t:TypeId}{x:Operand}:jc P lo Q k ops f ⟨d,.unOp uo t x,tt,ps,af,gg⟩ l fs tm σ m=iE P lo Q k ops f.wr d l fs tm σ m (dJ P m (f.name σ) (ev tm) (.unOp uo t x)):=(Eq.refl _).trans rfl
theorem Ync {t:TypeId}{x:Operand}{ox:Option Operand}{oy:Option Operand}{oz:Option Operand}:jc P lo Q k ops f ⟨d,.slice t x ox oy oz,tt,ps,af,gg⟩ l fs tm σ m=iE P lo Q k ops f.wr d l fs tm σ m (dJ P m (f.name σ) (ev tm) (.slice t x ox oy oz)):=(Eq.refl _).trans rfl
theorem Zuf {t:TypeId}{x:Operand}{q:Nat}:jc P lo Q k ops f ⟨d,.fieldAddr t x q,tt,ps,af,gg⟩ l fs tm σ m=iE P lo Q k ops f.wr d l fs tm σ m (dJ P m (f.name σ) (ev tm) (.fieldAddr t x q)):=(Eq.refl _).trans rfl
theorem Zu7 {t:TypeId}{x:Operand}{y:Operand}:jc P lo Q k ops f ⟨d,.indexAddr t x y,tt,ps,af,gg⟩ l fs tm σ m=iE P lo Q k ops f.wr d l fs tm σ m (dJ P m (f.name σ) (ev tm) (.indexAddr t x y)):=(Eq.refl _).trans rfl
theorem Yi2 {t:TypeId}{x:Operand}{y:Operand}{b:Bool}:jc P lo Q k ops f ⟨d,.lookup t x y b,tt,ps,af,gg⟩ l fs tm σ m=iE P lo Q k ops f.wr d l fs tm σ m (dJ P m (f.name σ) (ev tm) (.lookup t x y b)):=(Eq.refl _).trans rfl
theorem Zty {t:TypeId}{x:Operand}{y:Operand}{z:Operand}:jc P lo Q k ops f ⟨d,.mapUpdate t x y z,tt,ps,af,gg⟩ l fs tm σ m=iE P lo Q k ops f.wr d l fs tm σ m (dJ P m (f.name σ) (ev tm) (.mapUpdate t x y z)):=(Eq.refl _).trans rfl
theorem Yda {x:Operand}{q:Nat}:jc P lo Q k ops f ⟨d,.extract x q,tt,ps,af,gg⟩ l fs tm σ m=iE P lo Q k ops f.wr d l fs tm σ m (dJ P m (f.name σ) (ev tm) (.extract x q)):=(Eq.refl _).trans rfl
end
attribute [go_sem high] Ywt Yiv Yr5 Yun Yci Y9 Xbi WL Ynx
attribute [go_sem] Int.toNat_zero decide_eq_true_eq decide_eq_false_iff_not Bool.not_eq_true Bool.not_eq_false Decidable.not_not List.contains_cons List.contains_nil
attribute [go_sem] CH Cz Xbc Ywx Yjk OW TV Xbg Ywk Yul Yy8 Yx2 Yus Yui Yto Yox Ybg Ydq Yrm Yut Yek Yts Ymr Yp3 Zr4 Yr7 Yn0 Zwm Yoj Yt8 Ync Zuf Zu7 Yi2 Zty Yda List.tail_cons List.tail_nil
attribute [go_sem low] Yk0 TK Ytf
end Go.dq
