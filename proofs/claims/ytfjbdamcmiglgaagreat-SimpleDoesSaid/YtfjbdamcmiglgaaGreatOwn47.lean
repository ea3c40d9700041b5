/- Part 47 of what the claim rests on. -/
import Derived.Test.YtfjbdamcmiglgaaGreatOwn46
set_option linter.all false
abbrev gS:=@List.drop_of_length_le
abbrev i_:=@List.eraseIdx_eq_take_drop_succ
abbrev jQ:=@List.idxOf_lt_length_of_mem
abbrev oE:=@List.length_eraseIdx_of_lt
abbrev mS:=@List.mem_flatMap
abbrev pR:=@List.mem_of_mem_eraseIdx
namespace Go.Proofs
open Go Go.dq
theorem Yye (g:List Sy) (t u:Tm):t.gr g u=true↔gx t u=true/\(u.kX g<t.kX g\/(t.kX g=u.kX g/\0<=t.head/\0<=u.head/\(u.head<t.head\/(t.head=u.head/\Tm.rU g t.args u.args=true)))):=by
 rw[Nh];cases h1:gx t u with
 |false=>simp
 | true =>
  rw[if_neg (by simp)];by_cases h2:t.kX g=u.kX g
  ·rw [if_neg (λk=>k h2)];by_cases h3:t.head<0\/u.head<0
   ·rw [if_pos h3];constructor
    ·intro h;cases h
    ·rintro⟨_,h|h⟩
     ·omega
     ·omega
   ·rw [if_neg h3];by_cases h4:t.head=u.head
    ·rw [if_neg (λk=>k h4)];constructor
     ·intro h;exact⟨rfl,.inr ⟨h2,by omega,by omega,.inr ⟨h4,h⟩⟩⟩
     ·rintro⟨_,h|⟨_,_,_,h|h⟩⟩
      ·omega
      ·omega
      ·exact h.2
    ·rw [if_pos h4,decide_eq_true_eq];constructor
     ·intro h;exact⟨rfl,.inr ⟨h2,by omega,by omega,.inl h⟩⟩
     ·rintro⟨_,h|⟨_,_,_,h|h⟩⟩
      ·omega
      ·exact h
      ·exact absurd h.1 h4
  ·rw [if_pos h2,decide_eq_true_eq];constructor
   ·intro h;exact⟨rfl,.inl h⟩
   ·rintro⟨_,h|h⟩
    ·exact h
    ·exact absurd h.1 h2
mutual
theorem Zo (g:List Sy):∀t u v:Tm,t.gr g u=true->u.gr g v=true->t.gr g v=true
 | .mk h ts,u,v,h1,h2=>by
  have h0:=λus vs=>Xg g ts us vs;rw[Yye]at h1 h2 ⊢;obtain⟨a1,a2⟩:=h1;obtain⟨b1,b2⟩:=h2;refine⟨?_,?_⟩
  ·rw[OB]at a1 b1 ⊢;exact λw hw=>dg (b1 w hw) (a1 w hw)
  ·rcases a2 with a2|⟨a2,a3,a4,a5⟩<;>rcases b2 with b2|⟨b2,b3,b4,b5⟩
   ·exact .inl (by omega)
   ·exact .inl (by omega)
   ·exact .inl (by omega)
   ·refine .inr ⟨by omega,a3,b4,?_⟩;rcases a5 with a5|⟨a5,a6⟩<;>rcases b5 with b5|⟨b5,b6⟩
    ·exact .inl (by omega)
    ·exact .inl (by omega)
    ·exact .inl (by omega)
    ·exact .inr ⟨by omega,h0 _ _ a6 b6⟩
theorem Xg (g:List Sy):∀ts us vs:List Tm,Tm.rU g ts us=true->Tm.rU g us vs=true->Tm.rU g ts vs=true
 |[],us,vs,h1,_=>by rw[Tm.rU]at h1;cases h1
 |t :: ts,[],vs,h1,_=>by rw[Tm.rU]at h1;cases h1
 |t :: ts,u :: us,[],_,h2=>by rw[Tm.rU]at h2;cases h2
 | t :: ts,u :: us,v :: vs,h1,h2=>by
  rw[Tm.rU]at h1 h2 ⊢;by_cases e1:t=u
  ·rw[if_pos e1]at h1;by_cases e2:u=v
   ·rw[if_pos e2]at h2;rw[if_pos (e1.trans e2)];exact Xg g ts us vs h1 h2
   ·rw[if_neg e2]at h2;rw[if_neg (by rw[e1];exact e2),e1];exact h2
  ·rw [if_neg e1]at h1;by_cases e2:u=v
   ·rw[<-e2,if_neg e1];exact h1
   ·rw [if_neg e2]at h2;have h3:=Zo g t u v h1 h2;have h4:t≠v:=λe=>by
     rw[<-e,UG]at h3;cases h3
    rw[if_neg h4];exact h3
end
section
variable {α:Type}{same gt : α->α->Bool}
theorem UW (hi:∀x,gt x x=false) (ht:∀x y z,gt x y=true->gt y z=true->gt x z=true):∀l:List α,l≠[]->∃m∈l,∀z∈l,gt z m=false
 |[],h=>absurd rfl h
 |[a],_=>⟨a,by simp,λz hz=>by rw[aK.1 hz];exact hi a⟩
 | a :: b :: l,_=>by
  obtain⟨m,h1,h2⟩:=UW hi ht (b :: l) (by simp);cases hg:gt a m with
  | true =>
   refine⟨a,by simp,λz hz=>?_⟩;rcases aU.1 hz with rfl|hz
   ·exact hi _
   ·cases rE:gt z a with
    |false=>rfl
    |true =>
     have:=h2 z hz;rw[ht z a m rE hg]at this;cases this
  |false =>
   refine⟨m,by simp[h1],λz hz=>?_⟩;rcases aU.1 hz with rfl|hz
   ·exact hg
   ·exact h2 z hz
theorem Ym6 (hi:∀x,gt x x=false)(ht:∀x y z,gt x y=true->gt y z=true->gt x z=true){a b:List α}(h1:mY gt a b=true)(h2:mY gt b a=true):False:=by
 unfold mY at h1 h2;rw[aG,bu,decide_eq_true_eq]at h1 h2;obtain⟨m,k1,k2⟩:=UW hi ht (a++b) (λe=>by have h3:=h1.2;rw[(List.append_eq_nil_iff.1 e).1]at h3;exact absurd h3 (by simp));rcases a_.1 k1 with k1|k1
 ·obtain⟨x,e1,e2⟩:=cP.1 (h2.1 m k1);rw[k2 x (jJ _ e1)]at e2;cases e2
 ·obtain⟨x,e1,e2⟩:=cP.1 (h1.1 m k1);rw[k2 x (gb _ e1)]at e2;cases e2
theorem Vf {a b:List α}(h:vP same gt a b=1):mY gt (eg same a b) (eg same b a)=true:=by
 unfold vP at h;simp only[DT]at h;split at h
 ·omega
 split at h
 ·assumption
 split at h
 ·omega
 ·omega
theorem Xau {a b:List α}(h:vP same gt a b = -1):mY gt (eg same b a) (eg same a b)=true:=by
 unfold vP at h;simp only[DT]at h;split at h
 ·omega
 split at h
 ·omega
 split at h
 ·assumption
 ·omega
theorem Ytm (h:qm same) (hg:z6 same gt) (ha:∀x y,gt x y=true->gt y x=false) {e : α} {c c':List α} (hs:∀x,eO same x c'<=eO same x c) (hm:vP same gt [e] c' = -1):vP same gt [e] c = -1:=by
 have hm:=Xau hm;rw[EX h hg]at hm;obtain⟨m1,x1,m2⟩:=hm;simp only[BN h]at m1 m2;have o1:mY gt (eg same c [e]) (eg same [e] c)=true:=by
  rw[EX h hg];simp only[BN h];refine⟨λy hy=>?_,x1,?_⟩
  ·have:=hs y;obtain⟨x,k1,k2⟩:=m1 y (by omega);have:=hs x;exact⟨x,by omega,k2⟩
  ·have:=hs x1;omega
 have o2:¬mY gt (eg same [e] c) (eg same c [e])=true:=by
  rw[EX h hg];simp only[BN h];rintro⟨n1,x0,n2⟩;have F1:∀z,0<eO same z [e]-eO same z c->same z e=true:=λz hz=>by
   by_cases Eu:same z e=true
   ·exact Eu
   ·simp only[eO,if_neg Eu]at hz;omega
  have:=hs x0;obtain⟨x,k1,k2⟩:=m1 x0 (by omega);have:=hs x;obtain⟨w,k3,k4⟩:=n1 x (by omega);have k5:=h.trans _ _ _ (F1 w k3) (h.symm _ _ (F1 x0 n2));rw[hg w x0 x x k5 (h.refl _)]at k4;rw[ha x x0 k2]at k4;cases k4
 have o3:¬(eg same [e] c).length+(eg same c [e]).length=0:=by
  rw[PT h];intro k;have k:=(k x1).2;rw[BN h]at k;have:=hs x1;omega
 unfold vP;simp only[DT];rw[if_neg o3,if_neg o2,if_pos o1]
end
theorem Ymv (g:List Sy)(x y:Li)(h:decide (yd g x y=1)=true):decide (yd g y x=1)=false:=by
 simp only[decide_eq_true_eq,decide_eq_false_iff_not]at h ⊢;intro k;exact Ym6 (UG g) (Zo g) (Vf h) (Vf k)
def Dv (d c:List Li):Prop:=(∀x,eO dv x d<=eO dv x c)/\∀l∈d,l∈c
theorem Yli {g:List Sy}{c d:List Li}{u:Un}{t:Tm}(hs:Dv d c)(hc:iC g c)(hd:iC g d)(hl:iP g u.l)(hr:iP g u.r)(ht:iP g t)(hb:fb u=false)(h:(km g d u t).2=true):(km g c u t).2=true:=by
 obtain⟨s,h1,h2,h3,h4,h5⟩:=(XH hd hl hr ht hb).1 h;exact(XH hc hl hr ht hb).2 ⟨s,h1,h2,h3,h4,Ytm Ye6 (Yme g) (Ymv g) hs.1 h5⟩
theorem Nv {T:Un->mG->Tm×Bool} {s:mG}:∀ {us:List Un},fV T s us=none↔∀u∈us,(T u s).2=false
 |[]=>by simp[fV]
 | u :: us=>by
  rw[fV];cases h:(T u s).2 with
  |true=>simp[h]
  | false =>
   rw[if_neg (by simp),Nv];constructor
   ·intro k x hx;rcases aU.1 hx with rfl|hx
    ·exact h
    ·exact k x hx
   ·intro k x hx;exact k x (by simp[hx])
theorem V8 {T:Un->mG->Tm×Bool} {us:List Un}:∀ {ss:List mG},jM T us ss=none↔∀s∈ss,∀u∈us,(T u s).2=false
 |[]=>by simp[jM]
 | s :: ss=>by
  rw[jM];cases h:fV T s us with
  |some x =>
   constructor
   ·intro k;cases k
   ·intro k;rw[Nv.2 (k s (by simp))]at h;cases h
  | none =>
   simp only
   rw[V8];constructor
   ·intro k x hx;rcases aU.1 hx with rfl|hx
    ·exact Nv.1 h
    ·exact k x hx
   ·intro k x hx;exact k x (by simp[hx])
theorem Ol:∀(c:List Li) (i:Nat) (s:mG),s∈cL c i↔∃(j:Nat) (h:j<c.length),s∈lj (i+j) c[j]
 |[],i,s=>by simp[cL]
 | l :: c,i,s=>by
  rw[cL,a_,Ol c (i+1) s];constructor
  ·rintro(h|⟨j,hj,h⟩)
   ·exact⟨0,by simp,by simpa using h⟩
   ·exact⟨j+1,by simpa using hj,by rw[show i+(j+1)=i+1+j by omega];simpa using h⟩
  ·rintro⟨j,hj,h⟩;cases j with
   |zero=>exact .inl (by simpa using h)
   |succ j=>exact .inr ⟨j,by simpa using hj,by rw[show i+1+j=i+(j+1) by omega];simpa using h⟩
theorem Ybm {i k:Nat}{l:Li}{s:mG}(h:s∈lj i l):∃s'∈lj k l,s'.t=s.t:=by
 unfold lj cU at h ⊢;rcases a_.1 h with h|h<;>obtain⟨q,hq,rfl⟩:=cN.1 h
 ·exact⟨_,gb _ (cN.2 ⟨q,hq,rfl⟩),rfl⟩
 ·exact⟨_,jJ _ (cN.2 ⟨q,hq,rfl⟩),rfl⟩
theorem Yix {d c:List Li}(hs:∀l∈d,l∈c){s:mG}(h:s∈cL d 0):∃s'∈cL c 0,s'.t=s.t:=by
 obtain⟨j,hj,h1⟩:=(Ol d 0 s).1 h;obtain⟨k,hk,e⟩:=j6.1 (hs _ (ay hj));rw[<-e]at h1;obtain⟨s',h2,h3⟩:=Ybm (k:=0+k) h1;exact⟨s',(Ol c 0 s').2 ⟨k,hk,h2⟩,h3⟩
def calm (g:List Sy)(us:List Un)(c:List Li):Prop:=jM (TT g c) us (cL c 0)=none
theorem Zg {g:List Sy} {us:List Un} {c d:List Li} (hs:Dv d c) (hc:iC g c) (hd:iC g d) (hu:∀u∈us,fb u=false/\iP g u.l/\iP g u.r) (h:calm g us c):calm g us d:=by
 unfold calm at h ⊢;rw[V8]at h ⊢;intro s uH u xn;obtain⟨s',h1,h2⟩:=Yix hs.2 uH;obtain⟨b1,b2,b3⟩:=hu u xn;cases hb:(TT g d u s).2 with
 |false=>rfl
 |true =>
  have:=Yli hs hc hd b2 b3 (PA hd s uH) b1 hb;have k:=h s' h1 u xn;unfold TT at k;rw[h2,this]at k;cases k
theorem Ykb {g:List Sy} {us:List Un} {c:List Li}:calm g us c↔((e9 g us c).2.2.2=0/\(e9 g us c).2.2.1=false):=by
 unfold calm e9 lM;cases h:jM (TT g c) us (cL c 0) with
 |none=>simp
 | some x =>
  constructor
  ·intro k;cases k
  ·rintro⟨k1,k2⟩;simp only at k1 k2;split at k2
   ·cases k2
   ·rename_i hc;rw[if_neg hc]at k1;exact absurd k1 hc
theorem OI {g:List Sy} {es:List (List Li)} {c:List Li} (hw:cm g (c :: es)=0):calm g (db es) c↔(cT g es c).2.2=0/\(cT g es c).2.1=[]:=by
 have e1:cT g es c=eJ (e9 g (db es)) 201 c []:=by unfold cT ie;exact if_neg (λk=>k hw)
 rw[Ykb,e1];constructor
 ·rintro⟨h1,h2⟩;rw[eJ,if_neg (λk=>k h1),if_pos h2];exact⟨rfl,rfl⟩
 ·rintro ⟨h1,h2⟩;rw[eJ]at h1 h2;by_cases h3:(e9 g (db es) c).2.2.2=0
  ·rw [if_neg (λk=>k h3)]at h1 h2;refine⟨h3,?_⟩;by_cases h4:(e9 g (db es) c).2.2.1=false
   ·exact h4
   ·rw[if_neg h4]at h1 h2;split at h1
    ·cases h1
    ·rename_i h5;rw[if_neg h5]at h2;have:=(O1 (P:=λ_=>True) (λ_ _ _ _=>trivial) 200 _ _ trivial h1).2.2.2.1;rw[h2]at this;simp at this
  ·rw[if_pos h3]at h1;exact absurd h1 h3
theorem Yik {g:List Sy} {es:List (List Li)} {c:List Li} (h:qk es c) (h0:(cT g es c).2.2=0):calm g (db es) (cT g es c).1:=by
 obtain⟨hw,hx,e,_⟩:=Lz h h0;have lE:cm g ((cT g es c).1 :: es)=0:=by
  rw[cm,if_neg (λk=>k hx.1)];rw[cm]at hw;split at hw
  ·rename_i h3;exact absurd hw h3
  ·exact hw
 rw[OI lE,e];exact⟨rfl,rfl⟩
def lO (l:Li):Bool:=decide (l.l=l.r)
def qH (a b:Li):Bool:=decide (a.neg≠b.neg)&&mh a b
def iV:List Li->List Li->List Li
 |out,[]=>out
 |out,l :: c=>if ((out.any λm=>dv l m)||(l.neg&&lO l))=true then iV out c else iV (out++[l]) c
def iI (c:List Li):List Li:=iV [] c
def qL:List Li->List Li->Bool
 |_,[]=>false
 |b,l :: c=>if ((b.any λm=>qH l m)||(!l.neg&&lO l))=true then true else qL (b++[l]) c
def kB (c:List Li):Bool:=qL [] c
def nE (b:List Bd)(p t:Tm):Option (List Bd):=iF [(p,t)] b
def ia (l:Li):Bool:=decide (l.l.head=0)||decide (l.r.head=0)
def lu (b:List Bd) (a:Li) (x y:Tm) (F:List Bd->Bool):Bool:=match nE b a.l x with
 |none=>false
 |some m=>match nE m a.r y with
  |none=>false
  |some k=>F k
def mq (b:List Bd)(a l:Li)(F:List Bd->Bool):Bool:=if ia a≠ia l then false else lu b a l.l l.r F||lu b a l.r l.l F
def iu:Li:=⟨false,gQ,gQ⟩
def nJ (d:List Li):List Li->List Bool->List Bd->Bool
 |[],_,_=>true
 |a :: c,us,b=>(List.range d.length).any λk=>!us.getD k false&&decide ((d.getD k iu).neg=a.neg)&&mq b a (d.getD k iu) λm=>nJ d c (us.set k true) m
def sK (l:Li):Bool:=decide (l.l.check≠0)||decide (l.r.check≠0)
def kn (c d:List Li):Int:=if 32<c.length\/32<d.length then 2 else if (c.any sK||d.any sK)=true then 1 else 0
def ff (d:List Li):List Bool:=List.replicate d.length false
def pM (c d:List Li):Bool:=decide (c.length<=d.length)&&nJ d c (ff d) []
def r9 (c d:List Li):Bool×Int:=if kn c d≠0 then (false,kn c d) else (pM c d,0)
def cutAt (c d:List Li)(k i:Nat):Bool:=decide ((c.getD i iu).neg≠(d.getD k iu).neg)&&mq [] (c.getD i iu) (d.getD k iu) λm=>nJ d (c.eraseIdx i) ((ff d).set k true) m
def vD (c d:List Li):Option Nat:=(List.range d.length).find? λk=>(List.range c.length).any λi=>cutAt c d k i
def lQ (c d:List Li):Int×Bool×Int:=if kn c d≠0 then (0,false,kn c d) else match vD c d with
 |some k=>((k:Int),true,0)
 |none=>(0,false,0)
theorem OL:∀(c out:List Li),∀x∈iV out c,x∈out\/x∈c
 |[],out,x,h=>.inl (by rw[iV]at h;exact h)
 | a :: c,out,x,h=>by
  rw[iV]at h;split at h
  ·exact(OL c out x h).imp id (ct _)
  ·rcases OL c _ x h with h|h
   ·rcases a_.1 h with h|h
    ·exact .inl h
    ·rw[aK.1 h];exact .inr (by simp)
   ·exact .inr (ct _ h)
theorem ZA {α:Type}(same : α->α->Bool)(x : α):∀a b:List α,eO same x (a++b)=eO same x a+eO same x b
 |[],b=>by rw[aY,eO];omega
 |y :: a,b=>by rw[bq,eO,eO,ZA same x a b];omega
theorem Oc (x:Li):∀(c out:List Li),eO dv x (iV out c)<=eO dv x out+eO dv x c
 |[],out=>by rw[iV,eO];exact ae _
 |a :: c,out=>by
  rw[iV];split
  ·have:=Oc x c out;rw[eO];omega
  ·have:=Oc x c (out++[a]);rw[ZA]at this;simp only[eO]at this ⊢;omega
theorem Og:∀(c out:List Li),(iV out c).length<=out.length+c.length
 |[],out=>by rw[iV];simp
 |a :: c,out=>by
  rw[iV];split
  ·have:=Og c out;rw[aq];omega
  ·have:=Og c (out++[a]);rw[aA]at this;simp only[aq,aF]at this ⊢;omega
theorem S6 (c:List Li):Dv (iI c) c:=by
 refine⟨λx=>?_,λl hl=>?_⟩
 ·have:=Oc x c [];rw[eO]at this;unfold iI;omega
 ·rcases OL c [] l hl with h|h
  ·cases h
  ·exact h
theorem YE (c:List Li):(iI c).length<=c.length:=by have:=Og c [];unfold iI;simpa using this
def qY:List Li->Prop
 |[]=>True
 |l :: c=>(l.neg&&lO l)=false/\(∀m∈c,dv m l=false)/\qY c
theorem YZ:∀a b:List Li,qY (a++b)↔qY a/\qY b/\∀x∈a,∀y∈b,dv y x=false
 |[],b=>by simp[qY]
 | l :: a,b=>by
  rw[bq,qY,qY,YZ a b];constructor
  ·rintro⟨h1,h2,h3,h4,h5⟩;refine⟨⟨h1,λm hm=>h2 m (gb _ hm),h3⟩,h4,λx hx y hy=>?_⟩;rcases aU.1 hx with rfl|hx
   ·exact h2 y (jJ _ hy)
   ·exact h5 x hx y hy
  ·rintro⟨⟨h1,h2,h3⟩,h4,h5⟩;refine⟨h1,λm hm=>?_,h3,h4,λx hx y hy=>h5 x (ct _ hx) y hy⟩;rcases a_.1 hm with hm|hm
   ·exact h2 m hm
   ·exact h5 l (by simp) m hm
theorem NS:∀(c out:List Li),qY out->qY (iV out c)
 |[],out,h=>by rw[iV];exact h
 | a :: c,out,h=>by
  rw[iV];split
  ·exact NS c out h
  ·rename_i hn;simp only[cb,not_or,dB]at hn;refine NS c _ ((YZ out [a]).2 ⟨h,⟨hn.2,λm hm=>(by cases hm),trivial⟩,λx hx y hy=>?_⟩);rw[aK.1 hy];cases hs:dv a x with
   |false=>rfl
   |true =>
    have:=cP.2 ⟨x,hx,hs⟩;rw[hn.1]at this;cases this
theorem W3 (c:List Li):qY (iI c):=NS c [] trivial
theorem WO:∀ {c:List Li} (k:Nat),qY c->qY (c.eraseIdx k)
 |[],k,h=>by simpa using h
 |l :: c,0,h=>by rw[List.eraseIdx_cons_zero];exact h.2.2
 |l :: c,k+1,h=>by
  rw[List.eraseIdx_cons_succ];exact⟨h.1,λm hm=>h.2.1 m (pR hm),WO k h.2.2⟩
theorem Yx (c:List Li) (k:Nat):Dv (c.eraseIdx k) c:=by
 refine⟨λx=>?_,λl hl=>pR hl⟩
 induction c generalizing k with
 |nil=>simp
 |cons a c ih =>
  cases k with
  |zero=>rw[List.eraseIdx_cons_zero,eO];omega
  |succ k=>rw[List.eraseIdx_cons_succ,eO,eO];have:=ih k;omega
theorem T6 {g:List Sy} {d c:List Li} (hs:∀l∈d,l∈c) (hl:d.length<=c.length) (hc:iC g c):iC g d:=by
 refine ⟨?_,λl h=>hc.2 l (hs l h)⟩;obtain⟨h1,h2,h3⟩:=uy hc.1;unfold aW;rw[if_neg (by rw[h1];simp),if_neg (by omega)];have key:∀c:List Li,(∀l∈c,l.check g=0)->dH g c=0:=by
  intro c
  induction c with
  |nil=>intro _;rfl
  |cons a c ih =>
   intro h;rw[dH,if_neg (λk=>k (h a (by simp)))];exact ih λl hl=>h l (by simp[hl])
 exact key d λl h=>h3 l (hs l h)
theorem Uw {g:List Sy}{c:List Li}(hc:iC g c):iC g (iI c):=T6 (S6 c).2 (YE c) hc
theorem Zq {g:List Sy}{c:List Li}(k:Nat)(hc:iC g c):iC g (c.eraseIdx k):=T6 (Yx c k).2 (List.length_eraseIdx_le _ _) hc
end Go.Proofs
namespace Go.Proofs
open Go Go.dq
theorem Yt7 (l:Li) (h1:l.l.size<999999999) (h2:l.r.size<999999999):az Tryz.prog 89 [l.aH] (.bool (sK l)):=by
 refine az.begin (rs:=[.tmp 2]) (m:=12) 1000 Tryz.func89 rfl rfl rfl (by decide) trivial ?_;have c1:=EL l.l h1;have c2:=EL l.r h2;unfold sK;simp only[go_sem,gf];refine ak.bm [] (c1) (by(try simp only[cq]);exact bL _ _ _) (by simp[go_sem,cV,bC]) ?_;simp only[bj,bA,bz,if_true];refine aC.g ?_
 by_cases e1:l.l.check=0
 ·simp only[go_sem,e1];refine ak.bm [] (c2) (by(try simp only[cq]);exact bL _ _ _) (by simp[go_sem,cV,bC]) ?_;simp only[bj,bA,bz,if_true];refine aC.g ?_
  by_cases e2:l.r.check=0
  ·simp only[go_sem,e2]
  ·simp only[go_sem,e2]
 ·simp only[go_sem,e1]
theorem Zi (l:Li):az Tryz.prog 131 [l.aH] (.bool (ia l)):=by
 refine az.begin (rs:=[.tmp 2]) (m:=12) 1000 Tryz.func131 rfl rfl rfl (by decide) trivial ?_;unfold ia;by_cases e1:l.l.head=0
 ·simp only[go_sem,gf,e1]
 ·by_cases e2:l.r.head=0
  ·simp only[go_sem,gf,e1,e2]
  ·simp only[go_sem,gf,e1,e2]
def ui (L:List (List Li)):Int:=if (L.any λc=>decide (32<c.length))=true then 2 else if (L.any λc=>c.any sK)=true then 1 else 0
theorem SJ (c d:List Li):ui [c,d]=kn c d:=by
 unfold ui kn;simp
def Gh (c:List Li):Prop:=(∀l∈c,l.l.size<999999999/\l.r.size<999999999)/\c.length<2 ^ 62
theorem Xl (L:List (List Li)) (hL:∀c∈L,Gh c) (hl:L.length<1000000) :
  az Tryz.prog 54 [.ps 1 (c9 L)] (.int .i64 (ui L)):=by
 refine az.begin (rs:=[.tmp 2]) (m:=27) 1000 Tryz.func54 rfl rfl rfl (by decide) trivial ?_;have hf:∀e:List Li,Gh e->ak Tryz.prog (.fn 63 [] []) [.ps 5 (lits e),.fn 89 [] []] [] (λr σ'=>r=.bool (e.any sK)/\σ'=[]):=λe he =>
  Kv [] _ sK e he.2 trivial (by simp[go_sem]) λi hi=>by
   obtain⟨a1,a2⟩:=he.1 _ (ay hi);refine ak.bm [] (Yt7 e[i] a1 a2) (bL _ _ _) (by simp[go_sem,jU]) ?_;simp only[bj,if_true];trivial
 obtain⟨Y,hY⟩:∃Y,(L.any λc=>decide (32<c.length))=Y:=⟨_,rfl⟩;obtain⟨Z,hZ⟩:∃Z,(L.any λc=>c.any sK)=Z:=⟨_,rfl⟩;have hW:ui L=if Y=true then 2 else if Z=true then 1 else 0:=by unfold ui;rw[hY,hZ]
 rw[hW];simp only[go_sem];refine aC.cA (ι:={i:Nat // i<=L.length/\((L.drop i).any λc=>decide (32<c.length))=Y}) 1000 (λq=>dV 28 [(0,.ps 1 (c9 L)),(2,.int .i64 0),(8,.ps 1 (c9 L)),(9,.int .i64 L.length),(10,.int .i64 q.1)])
  (λ_=>[]) (λq=>L.length-q.1) ⟨0,aj _,by rw[dQ];first|exact hY|exact hZ⟩ ?_ (λ_=>aj _) ?_
 ·simp only[go_sem,eh,lP]
 ·rintro ⟨i,hi,aD⟩;by_cases bx:(i:Int)<L.length
  ·have aL:i<L.length:=by omega
   have hw:=W1' i (by omega)
   have g1:=yn aL;rw[ai aL,dI]at aD;generalize L[i]=c at *
   by_cases hc:(32:Int)<c.length
   ·have tx:decide (32<c.length)=true:=by simp;omega
    rw[tx,dE]at aD;subst aD;rw[if_pos rfl];simp only[go_sem,bx,lP,g1,dA,hc];refine⟨by omega,?_⟩;refine aC.g ?_;simp only[go_sem]
   ·have tx:decide (32<c.length)=false:=by simp;omega
    rw[tx,cD]at aD;simp only[go_sem,bx,lP,g1,dA,hc];refine⟨by omega,⟨i+1,by omega,aD⟩,?_,by simp only;omega⟩;simp only[go_sem,eh,hw]
  ·have dm:i=L.length:=by omega
   subst dm;rw[aJ,fD]at aD;subst aD;rw[if_neg (by simp)];simp only[go_sem,bx];refine aC.g ?_;simp only[go_sem];refine aC.cA (ι:={i:Nat // i<=L.length/\((L.drop i).any λc=>c.any sK)=Z}) 1000 (λq=>dV 28 [(2,.int .i64 0),(5,.fn 89 [] []),(18,.ps 1 (c9 L)),(19,.int .i64 L.length),(20,.int .i64 q.1)])
    (λ_=>[]) (λq=>L.length-q.1) ⟨0,aj _,by rw[dQ];first|exact hY|exact hZ⟩ ?_ (λ_=>aj _) ?_
   ·simp only[go_sem,eh,lP]
   ·rintro ⟨i,hi,aD⟩;by_cases bx:(i:Int)<L.length
    ·have aL:i<L.length:=by omega
     have hw:=W1' i (by omega)
     have g1:=yn aL;have hk:=hf _ (hL _ (ay aL));rw[ai aL,dI]at aD;generalize L[i]=c at *
     simp only[go_sem,bx,lP,g1];refine⟨by omega,?_⟩;refine hk.mono ?_;rintro r σ' ⟨rfl,rfl⟩;cases hc:c.any sK with
     |true =>
      rw[hc,dE]at aD;subst aD;rw[if_pos rfl];refine aC.g ?_;simp only[go_sem];refine aC.g ?_;simp only[go_sem]
     |false =>
      rw[hc,cD]at aD;refine aC.g ?_;simp only[go_sem];refine⟨⟨i+1,by omega,aD⟩,?_,by simp only;omega⟩;simp only[go_sem,eh,hw]
    ·have dm:i=L.length:=by omega
     subst dm;rw[aJ,fD]at aD;subst aD;rw[if_neg (by simp)];simp only[go_sem,bx];refine aC.g ?_;simp only[go_sem]
theorem Yfg (ks vs:List ah) (σ:av) (hs:bH σ.length σ) (hk:bG 0 ks) (hv:bG 0 vs):ak Tryz.prog (.fn 158 [] []) [.pm ks vs] σ
  (λr σ'=>r=.map σ.length/\σ' = σ++[some (.map ks vs false)]):=by
 have C_:∀ {n},bG n ks:=fun {n}=>iD (aj n) hk;have hvn:∀ {n},bG n vs:=fun {n}=>iD (aj n) hv;refine ak.begin (rs:=[.tmp 2]) (m:=8) 1000 Tryz.func158 rfl rfl rfl rfl rfl ?_;simp only[go_sem];refine ak.zq Tryz.func184 (by kernel_rfl) (by kernel_rfl) (by kernel_rfl) (by kernel_rfl) ?_;refine aC.g ?_;simp only[go_sem];rw[gy];refine⟨_,gL _,by simp,qO (ph (by simp) hs) ?_,?_,rfl,rfl⟩
 ·simp[go_sem,C_,hvn]
 ·simp[go_sem]
def mapA:Option (List Bd)->ah
 |none=>.dj
 |some m=>.pm (gA m) (gZ m)
theorem Yp2 (o:Option (List Bd)):(mapA o).low 0:=by
 cases o with
 |none=>trivial
 |some m=>exact⟨(jC m).1,(jC m).2⟩
set_option maxHeartbeats 1000000 in
theorem YH (b:List Bd) (p t:Tm) (hp:p.fit) (hps:p.size<99999999) (uv:t.size<99999999) (hb:∀x∈b,x.t.size<99999999) :
  az Tryz.prog 132 [.pm (gA b) (gZ b),p.aH,t.aH] (mapA (nE b p t)):=by
 refine az.begin (rs:=[.tmp 6]) (m:=83) 1000 Tryz.func132 rfl rfl rfl (by decide) (Yp2 _) ?_;obtain⟨g,hg⟩:∃g,nE b p t=g:=⟨_,rfl⟩;rw[hg];unfold nE at hg;simp only[go_sem,dO];refine(Yfg _ _ _ (by simp[go_sem,bC]) (jC b).1 (jC b).2).mono ?_;rintro r σ' ⟨rfl,rfl⟩;refine aC.g ?_;simp only[go_sem,bq,aY,aq,aF];refine aC.draw [⟨none,[],[4]⟩,⟨some 3,[3],[4]⟩,⟨none,[],[3]⟩,⟨some 4,[4],[3]⟩,⟨none,[],[4]⟩] 3 5 mixed rfl rfl (by decide) ?_;simp only[go_sem,cM];refine aC.g ?_;simp only[go_sem];have hA1:pK [(p,t)]=[.agg [.int .i64 p.head,.ps 2 (p.args.map Tm.aH)]]:=by simp[pK,cq]
 have hB1:pL [(p,t)]=[.agg [.int .i64 t.head,.ps 2 (t.args.map Tm.aH)]]:=by simp[pL,cq]
 refine aC.ep (ι:={q:List (Tm×Tm)×List ah×List ah×List Bd // iF q.1 q.2.2.2=g/\bG 0 q.2.1/\bG 0 q.2.2.1/\mM q.1<=p.size/\(∀x∈q.1,x.1.fit/\x.2.size<99999999)/\(∀x∈q.2.2.2,x.t.size<99999999)}) 1000
  (λq=>dV 86 [(6,.dj),(7,.map 2),(8,.os 3 0 q.1.1.length 2),(9,.os 4 0 q.1.1.length 2)])
  (λq=>[none,none,some (.map (gA q.1.2.2.2) (gZ q.1.2.2.2) false),some (.row (pK q.1.1++q.1.2.1) 0),some (.row (pL q.1.1++q.1.2.2.1) 0)]) (λq=>mM q.1.1) ⟨([(p,t)],[],[],b),hg,trivial,trivial,by simp[mM],λx hx=>by rw[aK.1 hx];exact⟨hp,uv⟩,hb⟩ [] ?_ (λ_=>by simp) ?_
 ·refine eL rfl ?_;dsimp only
  rw[hA1,hB1];simp only[go_sem,jC,bT (jC _).1,bT (jC _).2,bC,bT (bC _),bf]
 ·rintro ⟨⟨s,j1,j2,m⟩,h1,h2,h3,h4,h5,h6⟩;simp only at h1 h2 h3 h4 h5 h6;cases s with
  |nil =>
   rw[iF]at h1;subst h1;simp only[go_sem,aF];refine aC.g ?_;simp only[go_sem,mapA]
  | cons x r =>
   obtain⟨J0,uJ⟩:=h5 x (by simp);have FT:∀y∈r,y.1.fit/\y.2.size<99999999:=λy hy=>h5 y (by simp[hy]);have FU:=P6 r;rw[mM]at h4;have A6:=BM x.1;have Ea:=H4 J0;unfold nj at Ea;have sW:IntKind.i64.wrap ((r.length:Int)+1-1)=r.length:=by rw[dt (by omega)];omega
   have oS:(0:Int)<r.length+1:=by omega
   have wi:IntKind.i64.wrap (-1-x.1.head) = -1-x.1.head:=dt (by omega);have hA:pK (x :: r)++j1=pK r++x.1.aH :: j1:=by rw[Zz];simp
   have hB:pL (x :: r)++j2=pL r++x.2.aH :: j2:=by rw[Zm];simp
   have Ri:(pK r++x.1.aH :: j1).getD r.length .undef=x.1.aH:=by rw[<-G4 r];simp[List.getD]
   have Rj:(pL r++x.2.aH :: j2).getD r.length .undef=x.2.aH:=by rw[<-G6 r];simp[List.getD]
   have Ju:(pK r++x.1.aH :: j1).length=r.length+1+j1.length:=by simp[G4];omega
   have Jv:(pL r++x.2.aH :: j2).length=r.length+1+j2.length:=by simp[G6];omega
   simp only[go_sem,aq,hA,hB,fJ,fK,oS,sW];refine aC.draw [⟨none,[],[5,6]⟩,⟨none,[],[5,6]⟩,⟨none,[],[5,6]⟩,⟨none,[],[5,6]⟩,⟨none,[],[5,6]⟩,⟨none,[],[5,6]⟩,⟨none,[],[5,6]⟩,⟨none,[],[5,6]⟩,⟨some 5,[5],[6]⟩,⟨some 6,[6],[5]⟩,⟨none,[5],[]⟩,⟨none,[6],[]⟩] 5 7 mixed rfl rfl (by decide) ?_;simp only[go_sem,cM,Ju,Jv,Ri,Rj,dO];refine⟨⟨by omega,by omega⟩,by omega,⟨by omega,by omega⟩,by omega,?_⟩;refine aC.g ?_;refine aC.draw [] 7 7 mixed rfl rfl (by decide) ?_;simp only[go_sem,cM];refine⟨by omega,by omega,?_⟩;have hl:∀n,bG n (pK r++x.1.aH :: j1)/\bG n (pL r++x.2.aH :: j2):=λn=>⟨uQ (of_eq_true (LL r)) ⟨cV x.1,iD (aj _) h2⟩,uQ (of_eq_true (LS r)) ⟨cV x.2,iD (aj _) h3⟩⟩;by_cases hv : 0<=-1-x.1.head
   ·rw [iF,if_pos hv]at h1;have qz:=NZ m (-1-x.1.head) (.agg [.int .i64 0,.a8]);cases hf:m.find? (λc=>c.v == -1-x.1.head) with
    |some c =>
     rw[hf]at qz h1;simp only at h1 qz;have vG:=h6 c (ck hf);refine aC.g ?_;simp only[go_sem,wi,hv,BJ,qz,dO];refine ak.bm [] (CB c.t x.2 (by omega) (by omega)) (by(try simp only[cq]);exact bL _ _ _) (by simp[go_sem,cV,bC]) ?_;simp only[bj,bA,bz,if_true];refine aC.g ?_
     by_cases he:c.t=x.2
     ·rw[if_pos he]at h1;have xl:=VS (x:=.agg [.int .i64 x.2.head,.ps 2 (x.2.args.map Tm.aH)]) (by rw[he,cq]) hf;simp only[go_sem,he,BJ,xl];refine⟨⟨(r,x.1.aH :: j1,x.2.aH :: j2,m),h1,⟨cV x.1,h2⟩,⟨cV x.2,h3⟩,by simp only;omega,FT,h6⟩,[],eL rfl ?_,by simp only[mM];omega⟩;have zg:=hl 0;simp only[go_sem,jC,bT (jC _).1,bT (jC _).2,bT zg.1,bT zg.2,hl]
     ·rw[if_neg he]at h1;subst h1;simp only[go_sem,he];refine aC.g ?_;simp only[go_sem,mapA]
    | none =>
     rw[hf]at qz h1;simp only at h1 qz;have xl:=N7 (l:=m) (b:=⟨-1-x.1.head,x.2⟩) (x:=.agg [.int .i64 x.2.head,.ps 2 (x.2.args.map Tm.aH)]) (cq _).symm hf;refine aC.g ?_;simp only[go_sem,wi,hv,BJ,qz,dO,xl];refine⟨⟨(r,x.1.aH :: j1,x.2.aH :: j2,m++[⟨-1-x.1.head,x.2⟩]),h1,⟨cV x.1,h2⟩,⟨cV x.2,h3⟩,by simp only;omega,FT,λy hy=>?_⟩,[],eL rfl ?_,by simp only[mM];omega⟩
     ·rcases a_.1 hy with hy|hy
      ·exact h6 y hy
      ·rw[aK.1 hy];exact uJ
     have zg:=hl 0;simp only[go_sem,jC,bT (jC _).1,bT (jC _).2,bT zg.1,bT zg.2,hl]
   ·rw [iF,if_neg hv]at h1;by_cases c1:x.1.head=x.2.head
    ·by_cases c2:x.1.args.length=x.2.args.length
     ·rw [if_neg (by simp[c1,c2])]at h1;have xR:IntKind.i64.wrap (-1-x.2.head) = -1-x.2.head:=by rw[<-c1];exact wi
      have yB:¬0<=-1-x.2.head:=by rw[<-c1];exact hv
      have c3:(x.1.args.length:Int)=x.2.args.length:=by omega
      refine aC.g ?_;simp only[go_sem,xR,yB,c1,c3,ao];refine aC.draw [.no,.no,.no,⟨some 7,[3,7],[]⟩,⟨none,[],[3,7]⟩,⟨none,[],[3,7]⟩,⟨none,[],[3,7]⟩,⟨some 8,[4,8],[]⟩] 7 9 mixed rfl rfl (by decide) ?_;have R2:(pK r++x.1.aH :: j1).take r.length=pK r:=by rw[<-G4 r,oG]
      have R3:(pL r++x.2.aH :: j2).take r.length=pL r:=by rw[<-G6 r,oG]
      have QT:=mH x.1.args;have R1:=n9 x.1;simp only[go_sem,cM,Ju,Jv,R2,R3,ao];refine⟨⟨by omega,by omega,by omega⟩,⟨by omega,by omega,by omega⟩,?_⟩;refine aC.g ?_;simp only[go_sem];have MD:=Ib x.1 x.2 r;refine⟨⟨((x.1.args.zip x.2.args).reverse++r,[],[],m),h1,trivial,trivial,by simp only;omega,λy hy=>?_,h6⟩,[(3,7),(7,3),(4,8),(8,4)],eL rfl ?_,by simp only[mM];omega⟩
      ·rcases a_.1 hy with hy|hy
       ·have hy:=du.1 hy;have a1:=sO (dC hy).2;have a2:=n9 x.2;exact⟨yY (zH J0) _ (dC hy).1,by omega⟩
       ·exact FT y hy
      dsimp only
      rw[To c2,YK c2,show((x.1.args.zip x.2.args).reverse++r).length=r.length+x.1.args.length by simp[c2];omega];have lA:∀n,bG n (pK r++x.1.args.map Tm.aH):=λn=>uQ (of_eq_true (LL r)) (bC _);have lB:∀n,bG n (pL r++x.2.args.map Tm.aH):=λn=>uQ (of_eq_true (LS r)) (bC _);have Sl:=lA 0;have Sm:=lB 0;simp only[go_sem,jC,bT (jC _).1,bT (jC _).2,bT Sl,bT Sm,lA,lB,bf,c2]
     ·rw[if_pos (.inr c2)]at h1;have xR:IntKind.i64.wrap (-1-x.2.head) = -1-x.2.head:=by rw[<-c1];exact wi
      have yB:¬0<=-1-x.2.head:=by rw[<-c1];exact hv
      have c3:¬(x.1.args.length:Int)=x.2.args.length:=by omega
      subst h1;refine aC.g ?_;simp only[go_sem,xR,yB,c1,c3,ao];refine aC.g ?_;simp only[go_sem,mapA]
    ·rw[if_pos (.inl c1)]at h1;subst h1;refine aC.g ?_;simp only[go_sem,wi,hv,c1];refine aC.g ?_;simp only[go_sem,mapA]
theorem Xc5 {Q:Tm->Prop} (ha:∀t,Q t->∀u∈t.args,Q u):∀(S:List (Tm×Tm)) (m:List Bd),(∀x∈S,Q x.2)->(∀b∈m,Q b.t)->∀m',iF S m=some m'->∀b∈m',Q b.t:=by
 intro S m
 induction S,m using iF.induct with
 |case1 m=>intro _ h m' e;rw[iF]at e;cases e;exact h
 |case2 x r m hv c hf he ih =>
  intro h1 h2 m' e;rw[iF,if_pos hv,hf]at e;simp only[if_pos he]at e;exact ih (λy hy=>h1 y (by simp[hy])) h2 m' e
 |case3 x r m hv c hf he =>
  intro _ _ m' e;rw[iF,if_pos hv,hf]at e;simp only[if_neg he]at e;cases e
 |case4 x r m hv hf ih =>
  intro h1 h2 m' e;rw[iF,if_pos hv,hf]at e;refine ih (λy hy=>h1 y (by simp[hy])) (λb hb=>?_) m' e;rcases a_.1 hb with hb|hb
  ·exact h2 b hb
  ·rw[aK.1 hb];exact h1 x (by simp)
 |case5 x r m hv hc =>
  intro _ _ m' e;rw[iF,if_neg hv,if_pos hc]at e;cases e
 |case6 x r m hv hc ih =>
  intro h1 h2 m' e;rw[iF,if_neg hv,if_neg hc]at e;refine ih (λy hy=>?_) h2 m' e;rcases a_.1 hy with hy|hy
  ·exact ha _ (h1 x (by simp)) _ (dC (du.1 hy)).2
  ·exact h1 y (by simp[hy])
def Kg (m:List Bd):Prop:=∀x∈m,x.t.size<99999999
theorem Tp {b m:List Bd}{p t:Tm}(hb:Kg b)(ht:t.size<99999999)(h:nE b p t=some m):Kg m :=
 Xc5 (Q:=λt=>t.size<99999999) (λt h u hu=>by have:=sO hu;have:=n9 t;omega) _ _ (λx hx=>by rw[aK.1 hx];exact ht) hb m h
def ya (l:Li):Prop:=(l.l.fit/\l.l.size<99999999)/\l.r.fit/\l.r.size<99999999
theorem Ig:∀(σ τ:av),ic σ (σ++τ)
 |[],τ=>by cases τ<;>trivial
 |x :: σ,τ=>⟨.inl rfl,Ig σ τ⟩
set_option maxHeartbeats 1000000 in
theorem Tc (b0 b1 b2 b3 b4 b5 b6 b7:Option bS) (b:List Bd) (a l:Li) (D:ah) (F:List Bd->Bool) (hs:bH 8 [b0,b1,b2,b3,b4,b5,b6,b7]) (ZU:D.low 8) (hb:Kg b) (ha:ya a) (hl:ya l)
  (hD:∀m,Kg m->ak Tryz.prog D [.pm (gA m) (gZ m)] [b0,b1,b2,b3,b4,b5,b6,b7] (λr σ'=>r=.bool (F m)/\σ'=[b0,b1,b2,b3,b4,b5,b6,b7])) :
  ak Tryz.prog (.fn 91 [] []) [.pm (gA b) (gZ b),a.aH,l.aH,D] [b0,b1,b2,b3,b4,b5,b6,b7] (λr σ'=>r=.bool (mq b a l F)/\σ'=[b0,b1,b2,b3,b4,b5,b6,b7]):=by
 have lg:∀n,8<=n->D.low n/\bH n [b0,b1,b2,b3,b4,b5,b6,b7]:=λn hn=>⟨oJ hn ZU,ph hn hs⟩;have wL:=lg 10 (by decide);have y7:=lg 11 (by decide);have MJ:=hs;simp only[yS,HX,and_true]at wL y7 MJ;refine ak.begin (rs:=[.tmp 8]) (m:=52) 1000 Tryz.func91 rfl rfl rfl rfl rfl ?_;have hend:∀(z:Bool) (τ:av),z=mq b a l F->mI (λr σ'=>r=.bool (mq b a l F)/\σ'=[b0,b1,b2,b3,b4,b5,b6,b7]) 8 (.bool z) ([b0,b1,b2,b3,b4,b5,b6,b7]++τ):=λz τ hz=>by
  rw[gy];exact⟨[b0,b1,b2,b3,b4,b5,b6,b7],Ig _ _,ae _,hs,trivial,by rw[hz],rfl⟩
 simp only[go_sem,gf];refine aC.draw [] 10 10 mixed rfl rfl (by decide) ?_;simp only[go_sem,cM];refine jS (Zi a) (by simp only[Li.aH,Li.cs];exact bL _ _ _) (by simp[go_sem,jU]) ?_;simp only[go_sem,cM];refine jS (Zi l) (by simp only[Li.aH,Li.cs];exact bL _ _ _) (by simp[go_sem,jU]) ?_;have hW:mq b a l F=if ia a≠ia l then false else lu b a l.l l.r F||lu b a l.r l.l F:=rfl
 obtain⟨W,Mr⟩:∃W,mq b a l F=W:=⟨_,rfl⟩;rw[Mr]at hend hW ⊢;by_cases hk:ia a=ia l
 case neg =>
  rw[if_pos hk]at hW;subst hW;have pH:(ia a==ia l)=false:=by simpa using hk
  simp only[go_sem,pH];refine aC.g ?_;simp only[go_sem];exact hend _ _ rfl
 rw[if_neg (λk=>k hk)]at hW;have pH:(ia a==ia l)=true:=by simpa using hk
 simp only[go_sem,pH];refine aC.g ?_;simp only[go_sem,List.range_zero,aY,bq,aI,aR,gB,dS];have RU:∀i:Nat,i<2->∃x y:Tm,([ah.agg [.int .i64 l.l.head,.ps 2 (l.l.args.map Tm.aH),.int .i64 l.r.head,.ps 2 (l.r.args.map Tm.aH)],.agg [.int .i64 l.r.head,.ps 2 (l.r.args.map Tm.aH),.int .i64 l.l.head,.ps 2 (l.l.args.map Tm.aH)]]).getD i .undef=.agg [.int .i64 x.head,.ps 2 (x.args.map Tm.aH),.int .i64 y.head,.ps 2 (y.args.map Tm.aH)] /\
   (if i=0 then lu b a l.l l.r F||lu b a l.r l.l F else if i=1 then lu b a l.r l.l F else false)=(lu b a x y F||if i+1=0 then lu b a l.l l.r F||lu b a l.r l.l F else if i+1=1 then lu b a l.r l.l F else false)/\x.size<99999999/\y.size<99999999:=λi hi=>by
  rcases(show i=0\/i=1 by omega) with rfl|rfl
  ·exact⟨l.l,l.r,rfl,by simp,hl.1.2,hl.2.2⟩
  ·exact⟨l.r,l.l,rfl,by simp,hl.2.2,hl.1.2⟩
 have h0:W=if 0=0 then lu b a l.l l.r F||lu b a l.r l.l F else if 0=1 then lu b a l.r l.l F else false:=hW
 have hRl:([ah.agg [.int .i64 l.l.head,.ps 2 (l.l.args.map Tm.aH),.int .i64 l.r.head,.ps 2 (l.r.args.map Tm.aH)],.agg [.int .i64 l.r.head,.ps 2 (l.r.args.map Tm.aH),.int .i64 l.l.head,.ps 2 (l.l.args.map Tm.aH)]]).length=2:=rfl;have Mn:∀n,bG n ([ah.agg [.int .i64 l.l.head,.ps 2 (l.l.args.map Tm.aH),.int .i64 l.r.head,.ps 2 (l.r.args.map Tm.aH)],.agg [.int .i64 l.r.head,.ps 2 (l.r.args.map Tm.aH),.int .i64 l.l.head,.ps 2 (l.l.args.map Tm.aH)]]):=λn=>by simp[go_sem,bC]
 generalize ([ah.agg [.int .i64 l.l.head,.ps 2 (l.l.args.map Tm.aH),.int .i64 l.r.head,.ps 2 (l.r.args.map Tm.aH)],.agg [.int .i64 l.r.head,.ps 2 (l.r.args.map Tm.aH),.int .i64 l.l.head,.ps 2 (l.l.args.map Tm.aH)]])=R at *
 refine aC.cA (ι:={i:Nat // i<=2/\W=if i=0 then lu b a l.l l.r F||lu b a l.r l.l F else if i=1 then lu b a l.r l.l F else false}) 1000
  (λq=>dV 56 [(0,.pm (gA b) (gZ b)),(3,D),(5,.ptr 8 0),(8,.bool false),(28,.os 10 0 2 4),(29,.int .i64 2),(30,.int .i64 q.1)])
  (λ_=>[b0,b1,b2,b3,b4,b5,b6,b7,some (.var [.bool a.neg,.int .i64 a.l.head,.ps 2 (a.l.args.map Tm.aH),.int .i64 a.r.head,.ps 2 (a.r.args.map Tm.aH)]),none,some (.row R 0)]) (λq=>2-q.1) ⟨0,by decide,h0⟩ ?_ (λ_=>by simp) ?_
 ·simp only[go_sem,yS,y7,zF,bC,jC,Mn];exact⟨rfl,trivial⟩
 ·rintro ⟨i,hi,aD⟩;by_cases bx:(i:Int)<2
  case neg =>
   have dm:i=2:=by omega
   subst dm;have hWf:false=W:=by rw[aD];rfl
   simp only[go_sem,bx];refine aC.g ?_;simp only[go_sem];exact hend _ _ hWf
  have aL:i<2:=by omega
  have hw:=W1' i (by omega)
  obtain⟨x,y,hx,hr,uJ,Et⟩:=RU i aL;rw[hr]at aD;have ny:lu b a x y F=false->W=if i+1=0 then lu b a l.l l.r F||lu b a l.r l.l F else if i+1=1 then lu b a l.r l.l F else false:=λh=>by rw[aD,h,cD]
  have Cd:lu b a x y F=match nE b a.l x with|none=>false|some m=>match nE m a.r y with|none=>false|some k=>F k:=rfl
  have c1:=YH b a.l x ha.1.1 ha.1.2 uJ hb;simp only[go_sem,bx,hRl,hx];refine⟨by omega,by omega,by decide,?_⟩;refine ak.bm [] (c1) (by(try simp only[cq]);exact bL _ _ _) (by simp[go_sem,cV,bC,jC]) ?_;rw[eW];simp only[ite_self];refine aC.g ?_
  cases h1:nE b a.l x with
  |none =>
   rw[h1]at Cd;simp only[go_sem,mapA];refine⟨⟨i+1,by omega,ny Cd⟩,?_,by simp only;omega⟩;simp only[go_sem,yS,y7,zF,bC,jC,Mn,hw];trivial
  | some m =>
   have hm:=Tp hb uJ h1;rw[h1]at Cd;simp only at Cd;have c2:=YH m a.r y ha.2.1 ha.2.2 Et hm;simp only[go_sem,mapA]
   (repeat((with_reducible refine And.intro ?_ ?_);·omega))
   refine ak.bm [] (c2) (by(try simp only[cq]);exact bL _ _ _) (by simp[go_sem,cV,bC,jC]) ?_;rw[eW];simp only[ite_self];refine aC.g ?_
   cases h2:nE m a.r y with
   |none =>
    rw[h2]at Cd;simp only[go_sem,mapA];refine⟨⟨i+1,by omega,ny Cd⟩,?_,by simp only;omega⟩;simp only[go_sem,yS,y7,zF,bC,jC,Mn,hw];trivial
   | some k =>
    have eZ:=Tp hm Et h2;rw[h2]at Cd;simp only at Cd;simp only[go_sem,mapA];refine ak.tail (σ:=[b0,b1,b2,b3,b4,b5,b6,b7]) (τ:=[some (.var [.bool a.neg,.int .i64 a.l.head,.ps 2 (a.l.args.map Tm.aH),.int .i64 a.r.head,.ps 2 (a.r.args.map Tm.aH)]),none,some (.row R 0),some (.var [.int .i64 x.head,.ps 2 (x.args.map Tm.aH),.int .i64 y.head,.ps 2 (y.args.map Tm.aH)])]) ZU (by simp[go_sem,jC]) hs ((hD k eZ).mono ?_);rintro r σ' ⟨rfl,rfl⟩;refine⟨rfl,?_⟩;simp only[bq,aY];cases hF:F k with
    |true =>
     refine aC.g ?_;simp only[go_sem];refine aC.g ?_;simp only[go_sem];exact hend _ _ (by rw[aD,Cd,hF,dE])
    |false =>
     refine aC.g ?_;simp only[go_sem];refine⟨⟨i+1,by omega,ny (by rw[Cd,hF])⟩,?_,by simp only;omega⟩;simp only[go_sem,yS,y7,zF,bC,jC,Mn,hw];trivial
def mZ (d:List Li)(us:List Bool):av:=[some (.row (eB us) 0),some (.var [.ps 5 (lits d),.os 0 0 d.length 1])]
theorem Gw (l:List Bool)(i:Nat)(b:Bool):(eB l).set i (.bool b)=eB (l.set i b):=by simp[eB,l9]
theorem Ha (d:List Li)(us:List Bool){n:Nat}(h : 2<=n):bH n (mZ d us):=by
 unfold mZ;refine⟨jA us,⟨bI d,show 0<n by omega,trivial⟩,trivial⟩
section
variable {P:Program}{lo:Ctx}{Q:cB->St->Prop}{k:List KI}{ops:Array Oper}{l:List Oper}{fs:List Fp}{tm:List ah}{σ m:av}
theorem Yw {d:Option Tmp}{f:ah}{args:List ah}{wr:List Nat}(r:ah)(hc:ak P f args m (λr' σ'=>r'=r/\σ'=m))(h:iw P lo Q k ops l fs (put tm d r) (ew wr 0 m σ)):oN P lo Q k ops wr d l fs tm σ m f args :=
 ⟨r,m,hc,Cr wr m 0,h⟩
end
theorem You (d:List Li) (a:Li) (c:List Li) (us:List Bool) (b:List Bd) (o:Option bS) (z:Bool) (ho:ke 8 o) (gM:c.length<1000000)
  (hA:ak Tryz.prog (.fn 55 [] []) [.ptr 1 0,.ps 5 (lits c),.pm (gA b) (gZ b)] (mZ d us) (λr σ'=>r=.bool z/\σ'=mZ d us)) :
  ak Tryz.prog (.fn 92 [] [.ptr 2 0,.ptr 3 0]) [.pm (gA b) (gZ b)] [some (.row (eB us) 0),some (.var [.ps 5 (lits d),.os 0 0 d.length 1]),some (.var [.ptr 1 0]),some (.var [.ps 5 (lits (a :: c))]),o,none,none,none]
   (λr σ'=>r=.bool z/\σ'=[some (.row (eB us) 0),some (.var [.ps 5 (lits d),.os 0 0 d.length 1]),some (.var [.ptr 1 0]),some (.var [.ps 5 (lits (a :: c))]),o,none,none,none]):=by
 refine ak.begin (rs:=[.tmp 4]) (m:=7) 1000 Tryz.func92 rfl rfl rfl rfl rfl ?_;have u0:List.drop 1 (lits (a :: c))=lits c:=rfl;simp only[go_sem];refine aC.draw [] 8 8 mixed rfl rfl (by decide) ?_;simp only[go_sem,cM,dA,aq,u0];have oB:List.take (c.length+1-1) (lits c)=lits c:=aO (by rw[dA];omega);rw[oB]
 (repeat((with_reducible refine And.intro ?_ ?_);·omega))
 refine Yw (.bool z) ?_ ?_
 ·refine ak.tail (σ:=mZ d us) (τ:=[some (.var [.ptr 1 0]),some (.var [.ps 5 (lits (a :: c))]),o,none,none,none]) ⟨trivial,trivial⟩ ⟨eX,bI _,⟨(jC b).1,(jC b).2⟩ ,trivial⟩ (Ha d us (ae _)) (hA.mono ?_);rintro r σ' ⟨rfl,rfl⟩;exact⟨rfl,rfl,rfl⟩
 simp only[go_sem];refine aC.g ?_;simp only[go_sem];rw[gy];exact⟨_,gL _,ae _,by simp[go_sem,jA,bI,yS,zF,ho];trivial,trivial,rfl,rfl⟩
set_option maxHeartbeats 1000000 in
theorem Ql (d:List Li) (hd:∀l∈d,ya l) (xG:d.length<1000000):∀(c:List Li) (us:List Bool) (b:List Bd),us.length=d.length->(∀a∈c,ya a)->c.length<1000000->Kg b ->
  ak Tryz.prog (.fn 55 [] []) [.ptr 1 0,.ps 5 (lits c),.pm (gA b) (gZ b)] (mZ d us) (λr σ'=>r=.bool (nJ d c us b)/\σ'=mZ d us)
 |[],us,b,hu,hc,gM,hb=>by
  unfold mZ;refine ak.begin (rs:=[.tmp 6]) (m:=57) 1000 Tryz.func55 rfl rfl rfl rfl rfl ?_;simp only[go_sem,dA,aF];rw[gy];exact⟨mZ d us,Ig (mZ d us) _,ae _,Ha d us (ae _),trivial,by rw[nJ],rfl⟩
 | a :: c,us,b,hu,hc,gM,hb=>by
  unfold mZ;refine ak.begin (rs:=[.tmp 6]) (m:=57) 1000 Tryz.func55 rfl rfl rfl rfl rfl ?_;have dL:¬((c.length+1:Nat):Int)=0:=by omega
  obtain⟨W,hW⟩:∃W,nJ d (a :: c) us b=W:=⟨_,rfl⟩;rw[hW];have hend:∀(z:Bool) (HE:List Bool) (τ:av),z=W->HE=us->mI (λr σ'=>r=.bool W/\σ'=mZ d us) 2 (.bool z) (mZ d HE++τ):=λz HE τ hz hu=>by
   rw[gy,hz,hu];exact⟨mZ d us,Ig _ _,ae _,Ha d us (ae _),trivial,rfl,rfl⟩
  unfold mZ at hend;have AO:∀τ:av,(some (.row (eB us) 0)):: (some (.var [.ps 5 (lits d),.os 0 0 d.length 1])):: τ=mZ d us++τ:=λτ=>rfl;rw[nJ]at hW;obtain⟨f,hf⟩:∃f:Nat->Bool,(λk=>!us.getD k false&&decide ((d.getD k iu).neg=a.neg)&&mq b a (d.getD k iu) λm=>nJ d c (us.set k true) m)=f:=⟨_,rfl⟩;rw[hf]at hW;have QS:=hc a (by simp);simp only[go_sem,dA,aq,dL];refine aC.cA (ι:={k:Nat // k<=d.length/\((List.range d.length).drop k).any f=W}) 1000
   (λq=>dV 60 [(2,.pm (gA b) (gZ b)),(3,.ptr 2 0),(4,.ptr 3 0),(6,.bool false),(16,.ps 5 (lits d)),(17,.int .i64 d.length),(18,.int .i64 q.1)])
   (λ_=>[some (.row (eB us) 0),some (.var [.ps 5 (lits d),.os 0 0 d.length 1]),some (.var [.ptr 1 0]),some (.var [.ps 5 (lits (a :: c))])]) (λq=>d.length-q.1) ⟨0,aj _,by simpa using hW⟩ ?_ (λ_=>by simp) ?_
  ·simp only[go_sem,jA,bI,jC]
  ·rintro ⟨k,hk,aD⟩;by_cases bx:(k:Int)<d.length
   case neg =>
    have dm:k=d.length:=by omega
    subst dm;rw[gS (by simp),fD]at aD;simp only[go_sem,bx];refine aC.g ?_;simp only[go_sem];exact hend _ us [some (.var [.ptr 1 0]),some (.var [.ps 5 (lits (a :: c))])] aD rfl
   have aL:k<d.length:=by omega
   have hw:=W1' k (by omega)
   have g1:=qs aL;have g2:=yT (l:=us) (i:=k) (by omega);have g3:(lits (a :: c)).getD 0 .undef=a.aH:=rfl;have gd:d.getD k iu=d[k]:=by simp[List.getD,aL]
   have C7:=hd _ (ay aL);rw[ai (by simpa using aL),dI,im]at aD;have kV:f k=(!us.getD k false&&decide (d[k].neg=a.neg)&&mq b a d[k] λm=>nJ d c (us.set k true) m):=by rw[<-hf];simp only[gd]
   generalize d[k]=l at *
   simp only[go_sem,bx,dA,g1,gf];refine⟨by omega,?_⟩;have uI:(k:Int)<us.length:=by omega
   have zl:f k=false->(List.drop (k+1) (List.range d.length)).any f=W:=λh=>by rw[h,cD]at aD;exact aD
   refine aC.draw [] 5 5 mixed rfl rfl (by decide) ?_;cases qU:us.getD k false with
   |true =>
    rw[qU]at g2 kV;simp only[go_sem,cM,g2,sN,hu,g3,gf,bx]
    (repeat((with_reducible refine And.intro ?_ ?_);·omega))
    refine aC.g ?_;simp only[go_sem];refine⟨⟨k+1,by omega,zl (by rw[kV];simp)⟩,?_,by simp only;omega⟩;simp only[go_sem,jA,bI,jC,hw]
   | false =>
    rw[qU]at g2 kV;cases dP:(l.neg==a.neg) with
    |false =>
     have rW:decide (l.neg=a.neg)=false:=by simpa using dP
     simp only[go_sem,cM,g2,sN,hu,g3,gf,bx,dP,dA,aq]
     (repeat((with_reducible refine And.intro ?_ ?_);·omega))
     refine aC.g ?_;simp only[go_sem];refine⟨⟨k+1,by omega,zl (by rw[kV,rW];simp)⟩,?_,by simp only;omega⟩;simp only[go_sem,jA,bI,jC,hw]
    | true =>
     have rW:decide (l.neg=a.neg)=true:=by simpa using dP
     rw[rW]at kV;simp only[l6,bO]at kV;simp only[go_sem,cM,g2,sN,hu,g3,gf,bx,dP,dA,aq]
     (repeat((with_reducible refine And.intro ?_ ?_);·omega))
     refine aC.g ?_;simp only[go_sem,sN,hu,g2,Gw];have Bc:(us.set k true).length=d.length:=by rw[bg];exact hu
     have tu:(us.set k true).set k false=us:=by
      rw[List.set_set];refine List.ext_getElem (by simp) λi h1 h2=>?_;rw[List.getElem_set];split
      ·rename_i e;subst e;simpa[List.getD,h2] using qU.symm
      ·rfl
     have I3:=Tc (some (.row (eB (us.set k true)) 0)) (some (.var [.ps 5 (lits d),.os 0 0 d.length 1])) (some (.var [.ptr 1 0])) (some (.var [.ps 5 (lits (a :: c))])) (some (.var [.bool l.neg,.int .i64 l.l.head,.ps 2 (l.l.args.map Tm.aH),.int .i64 l.r.head,.ps 2 (l.r.args.map Tm.aH)])) none none none b a l (.fn 92 [] [.ptr 2 0,.ptr 3 0]) (λm=>nJ d c (us.set k true) m)
      (by simp[go_sem,jA,bI,bC]) (by simp[go_sem]) hb QS C7 (λm hm=>You d a c _ m (some (.var [.bool l.neg,.int .i64 l.l.head,.ps 2 (l.l.args.map Tm.aH),.int .i64 l.r.head,.ps 2 (l.r.args.map Tm.aH)])) _ (by simp[go_sem,bC,zF]) (by simp only[aq]at gM;omega) (Ql d hd xG c (us.set k true) m Bc (λx hx=>hc x (by simp[hx])) (by simp only[aq]at gM;omega) hm))
     rw[<-kV]at I3;have g4:(eB (us.set k true)).getD k .undef=.bool true:=by rw[yT (by omega)];simp[List.getD,show k<us.length by omega]
     generalize us.set k true=EA at *
     refine⟨by omega,by omega,?_⟩;refine aC.draw [] 5 5 mixed rfl rfl (by decide) ?_;simp only[go_sem,cM,g3,gf,dA,aq]
     (repeat((with_reducible refine And.intro ?_ ?_);·omega))
     refine Yw (.bool (f k)) (ak.pad 3 ?_) ?_
     ·have e1:∀x:Li,ah.agg [.bool x.neg,.int .i64 x.l.head,.ps 2 (x.l.args.map Tm.aH),.int .i64 x.r.head,.ps 2 (x.r.args.map Tm.aH)]=x.aH:=λ_=>rfl;simp only[e1];refine I3.mono ?_;rintro r σ' ⟨rfl,rfl⟩;rw[gy];exact⟨_,Ig [_,_,_,_,_] [none,none,none],ae _,by simp[go_sem,jA,bI,bC],trivial,rfl,rfl⟩
     simp only[go_sem];refine aC.g ?_;simp only[go_sem,sN,Bc,g4,Gw,tu]
     (repeat((with_reducible refine And.intro ?_ ?_);·omega))
     refine⟨λFw=>?_,λFw=>?_⟩
     ·refine aC.g ?_;simp only[go_sem];exact hend _ us [some (.var [.ptr 1 0]),some (.var [.ps 5 (lits (a :: c))]),some (.var [.bool l.neg,.int .i64 l.l.head,.ps 2 (l.l.args.map Tm.aH),.int .i64 l.r.head,.ps 2 (l.r.args.map Tm.aH)])] (by rw[<-aD,Fw,dE]) rfl
     ·refine⟨⟨k+1,by omega,zl Fw⟩,?_,by simp only;omega⟩;simp only[go_sem,jA,bI,jC,hw]
def mX (c:List Li):Prop:=(∀l∈c,ya l)/\c.length<1000000
theorem Me {c:List Li}(h:mX c):Gh c:=⟨λl hl=>by
 obtain⟨⟨_,a⟩,_,b⟩:=h.1 l hl;exact⟨by omega,by omega⟩,by have:=h.2;omega⟩
theorem KH (d:List Li):List.replicate d.length (ah.bool false)=eB (ff d):=HW _
set_option maxHeartbeats 1000000 in
theorem Yo8 (c d:List Li) (hc:mX c) (hd:mX d):az Tryz.prog 21 [.ps 5 (lits c),.ps 5 (lits d)] (.dw [.bool (r9 c d).1,.int .i64 (r9 c d).2]):=by
 refine az.begin (rs:=[.tmp 4,.tmp 5]) (m:=28) 1000 Tryz.func21 rfl rfl rfl (by decide) ⟨trivial,trivial,trivial⟩ ?_;have hW:=Xl [c,d] (λx hx=>by
  simp only[aU,dU,or_false]at hx;rcases hx with rfl|rfl
  ·exact Me hc
  ·exact Me hd) (by simp)
 rw[SJ]at hW;have hF:r9 c d=if kn c d≠0 then (false,kn c d) else (pM c d,0):=rfl
 rw[hF];simp only[go_sem];refine ak.bm [0] hW ?_ (by simp[go_sem,eh]) ?_
 ·simp only[go_sem,c9,aI,aR]
 simp only[bj,bA,bz,if_true];refine aC.g ?_;by_cases h0:kn c d=0
 case neg =>
  rw[if_pos h0];simp only[go_sem,h0]
 rw[if_neg (λk=>k h0)];unfold pM;by_cases hl:d.length<c.length
 ·have h1:(d.length:Int)<c.length:=by omega
  have h2:decide (c.length<=d.length)=false:=by simp;omega
  rw[h2];simp only[go_sem,h0,dA,h1]
 have h1:¬(d.length:Int)<c.length:=by omega
 have h2:decide (c.length<=d.length)=true:=by simp;omega
 rw[h2,bO];have xG:=hd.2;simp only[go_sem,h0,dA,h1,KH];refine⟨by omega,?_⟩;refine ak.CX (q:=3) rfl ?_;simp only[go_sem,aI,aR,cu,cw];have hI:∀b,b<2->b=0\/b=1:=λb hb=>by omega
 refine ak.kI (Z:=mZ d (ff d)) (f:=.fn 55 [] []) (args:=[.ptr 1 0,.ps 5 (lits c),.pm (gA []) (gZ [])]) (λb=>b+1) (λb b' h1 h2 e=>by omega) (λb hb=>by have:b<2:=hb;simp;omega) (λb hb=>?_) ⟨trivial,trivial⟩ rfl ⟨eX,bI _,⟨trivial,trivial⟩,trivial⟩ ?_ (Ha d _ (ae _))
  (Ql d hd.1 hd.2 c (ff d) [] (by simp[ff]) hc.1 hc.2 (λx hx=>by cases hx)) ?_
 ·rcases hI b hb with rfl|rfl
  ·exact⟨_,rfl,by simp[go_sem,bT (jA _)]⟩
  ·exact⟨_,rfl,by simp[go_sem,bT (bI _)]⟩
 ·simp[go_sem,bT (bI _),gA,gZ]
 ·rintro r Z' ⟨rfl,rfl⟩;refine⟨ae _,Ha d _ (ae _),trivial,?_⟩;simp only[go_sem,mZ,ix,eQ,lX,aI,aR,bT (jA _),bT (bI _)];refine aC.g ?_;simp only[go_sem]
end Go.Proofs
namespace Go.dq
open Go
section
variable {P:Program}{lo:Ctx}{Q:cB->St->Prop}{tm:List ah}{σ:av}
theorem Zd {X:Nat->Nat->Prop} {base mb:Nat} {D:List Deferred} {β:Env} {a:Act} {w:World} (bs:List Nat) (i:Nat) (t:ah) (hi:i<tm.length) (hp:pT (among bs) σ t (tm.getD i .undef)) (h3:Rel X base mb D ⟨tm,σ⟩ β a w) :
  Rel X base mb D ⟨tm.set i t,fw (among bs) 0 σ⟩ β a w:=by
 have pG:=Cs (among bs) σ;have zN:=h3.s.p6 pG.p6;obtain⟨_,e2⟩:=wA zN pG [t] (cI:=[tm.getD i .undef]) (by rw[yW];exact⟨hp,by rw[Ub];trivial⟩);refine⟨zN,by simpa using h3.n,λk hk=>?_,h3.d⟩;have hr:=(h3.t k (by simpa using hk)).mono (DL pG.p6) (λ_ _ h=>h);by_cases e:i=k
 ·subst e;have:=(e2 0 (by simp)).1 _ hr;simpa[List.getD,hi] using this
 ·simpa[List.getD,eA,e] using hr
theorem YN {n:Nat}{β β':Env}{w w':World}{σ':av}(bs:List Nat)(g3:Ext n (fw (among bs) 0 σ) β w σ' β' w'):Ext n σ β w σ' β' w':=by
 have hf:=(Cs (among bs) σ).p6;exact⟨g3.os,g3.tape,g3.output,g3.size,λg o v hc hn=>g3.cell g o v hc λhm=>hn (hm.p6 hf),λg hg hn=>g3.block g hg λo hm=>hn o (hm.p6 hf),λg o hm=>(g3.jq g o hm).imp (λh=>h.p6 hf) id,g3.env⟩
theorem aC.tell {all:Array Oper}{l:List Oper}{k:List KI}(bs:List Nat)(i:Nat)(t:ah)(hi:i<tm.length)(hp:pT (among bs) σ t (tm.getD i .undef))(he:aC P lo Q (.ops all l :: k) .normal ⟨tm.set i t,fw (among bs) 0 σ⟩):aC P lo Q (.ops all l :: k) .normal ⟨tm,σ⟩:=by
 simp only[aC]at he ⊢;refine λhs=>?_;intro X base mb D β a w b k cs h1 h2 h3;obtain⟨e1,lp,fI,a1,w1,q,g1,g2,g3,g4⟩:=(he hs) X base mb D β a w b k cs (by simpa[H9] using h1) h2 (Zd bs i t hi hp h3);exact⟨e1,lp,fI,a1,w1,q,g1,g2,YN bs g3,g4⟩
end
end Go.dq
namespace Go.Proofs
open Go Go.dq
theorem Ys5 (d c:List Li) (us:List Bool) (b:List Bd) (o4 o5:Option bS) (z:Bool) (h4:ke 8 o4) (h5:ke 8 o5)
  (hA:ak Tryz.prog (.fn 55 [] []) [.ptr 1 0,.ps 5 (lits c),.pm (gA b) (gZ b)] (mZ d us) (λr σ'=>r=.bool z/\σ'=mZ d us)) :
  ak Tryz.prog (.fn 111 [] [.ptr 2 0,.ptr 3 0]) [.pm (gA b) (gZ b)] [some (.row (eB us) 0),some (.var [.ps 5 (lits d),.os 0 0 d.length 1]),some (.var [.ptr 1 0]),some (.var [.ps 5 (lits c)]),o4,o5,none,none]
   (λr σ'=>r=.bool z/\σ'=[some (.row (eB us) 0),some (.var [.ps 5 (lits d),.os 0 0 d.length 1]),some (.var [.ptr 1 0]),some (.var [.ps 5 (lits c)]),o4,o5,none,none]):=by
 refine ak.begin (rs:=[.tmp 4]) (m:=6) 1000 Tryz.func111 rfl rfl rfl rfl rfl ?_;simp only[go_sem];refine ak.tail (σ:=mZ d us) (τ:=[some (.var [.ptr 1 0]),some (.var [.ps 5 (lits c)]),o4,o5,none,none]) ⟨trivial,trivial⟩ ⟨eX,bI _,⟨(jC b).1,(jC b).2⟩,trivial⟩ (Ha d us (ae _)) (hA.mono ?_);rintro r σ' ⟨rfl,rfl⟩;refine⟨rfl,?_⟩;simp only[mZ,bq,aY];refine aC.g ?_;simp only[go_sem];rw[gy];exact⟨_,gL _,ae _,by simp[go_sem,jA,bI,yS,zF,h4,h5];trivial,trivial,rfl,rfl⟩
set_option maxHeartbeats 2000000 in
theorem Yrs (c d:List Li) (hc:mX c) (hd:mX d):az Tryz.prog 70 [.ps 5 (lits c),.ps 5 (lits d)] (.dw [.int .i64 (lQ c d).1,.bool (lQ c d).2.1,.int .i64 (lQ c d).2.2]):=by
 refine az.begin (rs:=[.tmp 4,.tmp 5,.tmp 6]) (m:=72) 1000 Tryz.func70 rfl rfl rfl (by decide) ⟨trivial,trivial,trivial,trivial⟩ ?_;have hW:=Xl [c,d] (λx hx=>by
  simp only[aU,dU,or_false]at hx;rcases hx with rfl|rfl
  ·exact Me hc
  ·exact Me hd) (by simp)
 rw[SJ]at hW;have hF:lQ c d=if kn c d≠0 then (0,false,kn c d) else match vD c d with|some k=>((k:Int),true,0) | none=>(0,false,0):=rfl
 rw[hF];simp only[go_sem];refine ak.bm [0] hW ?_ (by simp[go_sem,eh]) ?_
 ·simp only[go_sem,c9,aI,aR]
 simp only[bj,bA,bz,if_true];refine aC.g ?_;by_cases h0:kn c d=0
 case neg =>
  rw[if_pos h0];simp only[go_sem,h0]
 rw[if_neg (λk=>k h0)];have xG:=hd.2;have gM:=hc.2;obtain⟨p,hp⟩:∃p:Nat->Bool,(λk=>(List.range c.length).any λi=>cutAt c d k i)=p:=⟨_,rfl⟩;have hB:vD c d=(List.range d.length).find? p:=by unfold vD;rw[hp]
 rw[hB];obtain⟨W,Mr⟩:∃W,(List.range d.length).find? p=W:=⟨_,rfl⟩;rw[Mr];have vJ:(ff d).length=d.length:=by simp[ff]
 simp only[go_sem,h0,dA,KH];refine⟨by omega,?_⟩;refine aC.cA (ι:={k:Nat // k<=d.length/\((List.range d.length).drop k).find? p=W}) 1000
  (λq=>dV 74 [(0,.ps 5 (lits c)),(8,.ptr 3 0),(27,.ps 5 (lits d)),(28,.int .i64 d.length),(29,.int .i64 q.1)])
  (λ_=>[none,some (.row (eB (ff d)) 0),some (.var [.ps 5 (lits d),.os 1 0 d.length 1]),some (.var [.ptr 2 0])]) (λq=>d.length-q.1) ⟨0,aj _,by simpa using Mr⟩ ?_ (λ_=>by simp) ?_
 ·simp only[go_sem,jA,bI]
 ·rintro ⟨k,hk,aD⟩;by_cases bx:(k:Int)<d.length
  case neg =>
   have dm:k=d.length:=by omega
   subst dm;rw[gS (by simp),ta]at aD;subst aD;simp only[go_sem,bx];refine aC.g ?_;simp only[go_sem]
  have aL:k<d.length:=by omega
  have hw:=W1' k (by omega)
  have g1:=qs aL;have gd:d.getD k iu=d[k]:=by simp[List.getD,aL]
  have C7:=hd.1 _ (ay aL);rw[ai (by simpa using aL),iN,im]at aD;have nR:p k=(List.range c.length).any λi=>cutAt c d k i:=by rw[<-hp]
  have AJ:∀i,cutAt c d k i=(decide ((c.getD i iu).neg≠d[k].neg)&&mq [] (c.getD i iu) d[k] λm=>nJ d (c.eraseIdx i) ((ff d).set k true) m):=λi=>by unfold cutAt;rw[gd]
  have g2:(eB (ff d)).getD k .undef=.bool false:=by rw[yT (by omega)];simp[ff,List.getD,aL]
  have uI:(k:Int)<(ff d).length:=by omega
  have Bc:((ff d).set k true).length=d.length:=by rw[bg];exact vJ
  have g4:(eB ((ff d).set k true)).getD k .undef=.bool true:=by rw[yT (by omega)];simp[List.getD,vJ,aL]
  have tu:((ff d).set k true).set k false=ff d:=by
   rw[List.set_set];refine List.ext_getElem (by simp) λi h1 h2=>?_;rw[List.getElem_set];split
   ·simp[ff]
   ·rfl
  generalize d[k]=l at *
  simp only[go_sem,bx,dA,g1,gf,sN,vJ,g2,Gw]
  (repeat((with_reducible refine And.intro ?_ ?_);·omega))
  obtain⟨V,hV⟩:∃V,p k=V:=⟨_,rfl⟩;rw[hV]at aD nR;generalize (ff d).set k true=EA at *
  refine aC.cA (ι:={i:Nat // i<=c.length/\((List.range c.length).drop i).any (cutAt c d k)=V}) 1000
   (λq=>dV 74 [(0,.ps 5 (lits c)),(8,.ptr 3 0),(9,.int .i64 k),(10,.ptr 4 0),(27,.ps 5 (lits d)),(28,.int .i64 d.length),(29,.int .i64 k),(40,.ps 5 (lits c)),(41,.int .i64 c.length),(42,.int .i64 q.1)])
   (λ_=>[none,some (.row (eB EA) 0),some (.var [.ps 5 (lits d),.os 1 0 d.length 1]),some (.var [.ptr 2 0]),some (.var [.bool l.neg,.int .i64 l.l.head,.ps 2 (l.l.args.map Tm.aH),.int .i64 l.r.head,.ps 2 (l.r.args.map Tm.aH)])]) (λq=>c.length-q.1) ⟨0,aj _,by simpa using nR.symm⟩ ?_ (λ_=>by simp) ?_
  ·simp only[go_sem,jA,bI,bC]
  ·rintro ⟨i,hi,fA⟩;by_cases rV:(i:Int)<c.length
   case neg =>
    have dm:i=c.length:=by omega
    subst dm;rw[gS (by simp),fD]at fA;rw[<-fA]at aD;simp only[go_sem,rV];refine aC.g ?_;simp only[go_sem,sN,Bc,g4,Gw,tu]
    (repeat((with_reducible refine And.intro ?_ ?_);·omega))
    refine⟨⟨k+1,by omega,aD⟩,?_,by simp only;omega⟩;simp only[go_sem,jA,bI,hw]
   have uG:i<c.length:=by omega
   have Hy:=W1' i (by omega)
   have gc1:=qs uG;have gcd:c.getD i iu=c[i]:=by simp[List.getD,uG]
   have xF:=hc.1 _ (ay uG);rw[ai (by simpa using uG),dI,im,AJ,gcd]at fA;generalize c[i]=a at *
   have dL:c≠[]:=by rintro rfl;simp at uG
   simp only[go_sem,rV,dA,gc1,gf,Hy]
   (repeat((with_reducible refine And.intro ?_ ?_);·omega))
   refine ak.vN [] (KN c dL (by omega)) (bL _ _ _) ⟨bI _,trivial⟩ ?_;rw[eW];simp only[Cx,CA,CI,xv,CM,up,bT (bI _)];refine aC.g ?_;simp only[go_sem,bq,aY,Hy];refine ak.CQ (f:=.fn 71 [] []) (args:=[.os 0 0 c.length 5,.int .i64 i,.int .i64 ((i+1:Nat):Int)]) (B:=.row (lits c) 0) 7 rfl (bI _) ⟨trivial,trivial⟩ ⟨bF,trivial,trivial,trivial⟩ ((NW c i uG (by omega)).mono ?_);rintro r σ' ⟨rfl,rfl⟩;refine⟨bF,_,rfl,bI _,?_⟩;have Rc:c.take i++c.drop (i+1)=c.eraseIdx i:=(i_ c i).symm;have jD:(c.eraseIdx i).length=c.length-1:=oE uG;rw[Rc];simp only[go_sem,cu,cw];refine aC.tell [7] 52 (.ps 5 (lits (c.eraseIdx i))) (by simp) ?_ ?_
   ·simp only[go_sem,bE,aV,dA,jD];rw[aO (by rw[dA,jD];exact ae _)];exact bL _ _ _
   simp only[go_sem,cu,cw];refine aC.g ?_;cases dP:(a.neg==l.neg) with
   |true =>
    have rW:decide (a.neg≠l.neg)=false:=by simpa using dP
    rw[rW,bU,cD]at fA;simp only[go_sem,dP];refine⟨⟨i+1,by omega,fA⟩,?_,by simp only;omega⟩;simp only[go_sem,jA,bI,bC,Hy]
   | false =>
    have rW:decide (a.neg≠l.neg)=true:=by simpa using dP
    rw[rW,bO]at fA;simp only[go_sem,dP];have I3:=Tc (some (.row (eB EA) 0)) (some (.var [.ps 5 (lits d),.os 0 0 d.length 1])) (some (.var [.ptr 1 0])) (some (.var [.ps 5 (lits (c.eraseIdx i))])) (some (.var [.bool l.neg,.int .i64 l.l.head,.ps 2 (l.l.args.map Tm.aH),.int .i64 l.r.head,.ps 2 (l.r.args.map Tm.aH)])) (some (.var [.bool a.neg,.int .i64 a.l.head,.ps 2 (a.l.args.map Tm.aH),.int .i64 a.r.head,.ps 2 (a.r.args.map Tm.aH)])) none none [] a l (.fn 111 [] [.ptr 2 0,.ptr 3 0]) (λm=>nJ d (c.eraseIdx i) EA m)
     (by simp[go_sem,jA,bI,bC]) (by simp[go_sem]) (λx hx=>by cases hx) xF C7 (λm hm=>Ys5 d (c.eraseIdx i) EA m _ _ _ (by simp[go_sem,bC,zF]) (by simp[go_sem,bC,zF]) (Ql d hd.1 xG (c.eraseIdx i) EA m Bc (λx hx=>hc.1 x (pR hx)) (by omega) hm))
    obtain⟨z,hz⟩:∃z,(mq [] a l λm=>nJ d (c.eraseIdx i) EA m)=z:=⟨_,rfl⟩;rw[hz]at I3 fA;have hI:∀b,b<8->b=0\/b=1\/b=2\/b=3\/b=4\/b=5\/b=6\/b=7:=λb hb=>by omega
    refine ak.CX (q:=9) rfl ?_;have e1:∀x:Li,ah.agg [.bool x.neg,.int .i64 x.l.head,.ps 2 (x.l.args.map Tm.aH),.int .i64 x.r.head,.ps 2 (x.r.args.map Tm.aH)]=x.aH:=λ_=>rfl;simp only[go_sem,aI,aR,cu,cw];simp only[e1];refine ak.kI (Z:=[some (.row (eB EA) 0),some (.var [.ps 5 (lits d),.os 0 0 d.length 1]),some (.var [.ptr 1 0]),some (.var [.ps 5 (lits (c.eraseIdx i))]),some (.var [.bool l.neg,.int .i64 l.l.head,.ps 2 (l.l.args.map Tm.aH),.int .i64 l.r.head,.ps 2 (l.r.args.map Tm.aH)]),some (.var [.bool a.neg,.int .i64 a.l.head,.ps 2 (a.l.args.map Tm.aH),.int .i64 a.r.head,.ps 2 (a.r.args.map Tm.aH)]),none,none]) (f:=.fn 91 [] []) (args:=[.pm (gA []) (gZ []),a.aH,l.aH,.fn 111 [] [.ptr 2 0,.ptr 3 0]]) (λb=>[1,2,3,8,4,5,6,9].getD b 0)
     (λb b' h1 h2 e=>?_) (λb hb=>?_) (λb hb=>?_) ⟨trivial,trivial⟩ rfl ?_ ?_ (by simp[go_sem,jA,bI,bC]) I3 ?_
    ·rcases hI b h1 with rfl|rfl|rfl|rfl|rfl|rfl|rfl|rfl<;>rcases hI b' h2 with rfl|rfl|rfl|rfl|rfl|rfl|rfl|rfl<;>first|rfl|exact absurd e (by decide)
    ·rcases hI b hb with rfl|rfl|rfl|rfl|rfl|rfl|rfl|rfl<;>simp
    ·rcases hI b hb with rfl|rfl|rfl|rfl|rfl|rfl|rfl|rfl<;>exact⟨_,rfl,by simp[go_sem,bT (jA _),bT (bI _),bT (bC _)]⟩
    ·simp[go_sem,jU,jC]
    ·simp[go_sem,gA,gZ,zJ (jU _)]
    ·rintro r Z' ⟨rfl,rfl⟩;refine⟨ae _,by simp[go_sem,jA,bI,bC],trivial,?_⟩;simp only[go_sem,ix,eQ,lX,aI,aR,bT (jA _),bT (bI _),bT (bC _),aq,aF,bE,aV];cases z with
     |true =>
      rw[dE]at fA;rw[<-fA]at aD;subst aD;refine aC.g ?_;simp only[go_sem];refine aC.g ?_;simp only[go_sem];refine aC.g ?_;simp only[go_sem]
     |false =>
      rw[cD]at fA;refine aC.g ?_;simp only[go_sem];refine⟨⟨i+1,by omega,fA⟩,?_,by simp only;omega⟩;simp only[go_sem,jA,bI,bC,Hy]
theorem Zo5 (σ:av) {b:Nat} (c:ah) (p:Li->Bool) (l:List Li) (hb:bW σ b=cX (lits l)) (hl:l.length<2 ^ 62) (hs:bH σ.length σ) (hc:c.low σ.length)
  (hp:∀(i:Nat) (h:i<l.length),ak Tryz.prog c [l[i].aH] σ (λr σ'=>r=.bool (p l[i])/\σ' = σ)) :
  ak Tryz.prog (.fn 63 [] []) [eR b 5 (lits l),c] σ (λr σ'=>r=.bool (l.any p)/\σ' = σ):=by
 cases l with
 |nil =>
  refine ak.Qp (args':=[.ps 5 (lits []),c]) ?_ (Kv σ c p [] hl hs hc hp);rw[yW];exact⟨rfl,bL _ _ _⟩
 |cons a l =>
  have oP:bW σ b=some (.row (lits (a :: l)) 0):=hb;have u0:eR b 5 (lits (a :: l))=.os b 0 (a :: l).length 5:=by rw[<-dA (a :: l)];rfl
  rw[u0];have bx:=CG oP;refine ak.begin (rs:=[.tmp 4]) (m:=7) 1000 Tryz.func63 rfl rfl rfl rfl rfl ?_;simp only[go_sem];refine(VW σ c p (a :: l) oP hl hs hc hp).mono ?_;rintro r σ' ⟨rfl,rfl⟩;refine aC.g ?_;simp only[go_sem];rw[gy,ET p (a :: l) 0 (by omega)];exact⟨σ',gL σ',ae _,hs,trivial,rfl,rfl⟩
theorem zv {l:Li}(h:ya l):sY l:=⟨by have:=h.1.2;omega,by have:=h.2.2;omega⟩
theorem VL (l:Li)(h:sY l):az Tryz.prog 66 [l.aH] (.bool (lO l)):=by
 refine az.begin (rs:=[.tmp 2]) (m:=7) 1000 Tryz.func66 rfl rfl rfl (by decide) trivial ?_;have h1:=CB l.l l.r (by have:=h.1;omega) (by have:=h.2;omega);unfold lO;simp only[go_sem,gf];refine ak.bm [] (h1) (by(try simp only[cq]);exact bL _ _ _) (by simp[go_sem,cV,bC]) ?_;simp only[bj,bA,bz,if_true];refine aC.g ?_
 simp only[go_sem]
theorem Ztb (a b:Li) (ha:sY a) (hb:sY b):az Tryz.prog 105 [a.aH,b.aH] (.bool (qH a b)):=by
 refine az.begin (rs:=[.tmp 4]) (m:=13) 1000 Tryz.func105 rfl rfl rfl (by decide) trivial ?_;have h:=W6 a b ha hb;unfold qH;cases c:a.neg==b.neg
 ·have hd:decide (a.neg≠b.neg)=true:=by simpa using c
  rw[hd,bO];simp only[go_sem,gf,c];refine ak.bm [] h (bL _ _ _) ⟨jU _,jU _,trivial⟩ ?_;simp only[bj,bA,bz,if_true];refine aC.g ?_;simp only[go_sem]
 ·have hd:decide (a.neg≠b.neg)=false:=by simpa using c
  rw[hd,bU];simp only[go_sem,gf,c]
theorem Ynp (σ:av) (b:Nat) (l m:Li) (hb:bW σ b=some (.var l.cs)) (hl:sY l) (hm:sY m) :
  ak Tryz.prog (.fn 64 [] [.ptr b 0]) [m.aH] σ (λr σ'=>r=.bool (dv l m)/\σ' = σ):=by
 have h:az Tryz.prog 64 [m.aH,.pp l.cs] (.bool (dv l m)):=by
  refine az.begin (rs:=[.tmp 3]) (m:=5) 1000 Tryz.func64 rfl rfl rfl (by decide) trivial ?_;have h1:=SH l m hl hm;simp only[go_sem,gf,Li.cs];refine ak.bm [] h1 (bL _ _ _) ⟨jU _,jU _,trivial⟩ ?_;simp only[bj,bA,bz,if_true];refine aC.g ?_;simp only[go_sem,dv]
 refine ak.vM (b:=b) (cs:=l.cs) [] hb h ?_ ⟨jU m,jU l,trivial⟩ rfl ⟨rfl,rfl⟩;have h1:v7 b l.cs m.aH=m.aH:=rfl;have h2:v7 b l.cs (.ptr b 0)=.pp l.cs:=by simp[v7,Ar,Li.cs]
 simp only[aY,bq,aI,aR,h1,h2];exact bL _ _ _
theorem Yp7 (σ:av) (b:Nat) (l m:Li) (hb:bW σ b=some (.var l.cs)) (hl:sY l) (hm:sY m) :
  ak Tryz.prog (.fn 104 [] [.ptr b 0]) [m.aH] σ (λr σ'=>r=.bool (qH l m)/\σ' = σ):=by
 have h:az Tryz.prog 104 [m.aH,.pp l.cs] (.bool (qH l m)):=by
  refine az.begin (rs:=[.tmp 3]) (m:=5) 1000 Tryz.func104 rfl rfl rfl (by decide) trivial ?_;have h1:=Ztb l m hl hm;simp only[go_sem,gf,Li.cs];refine ak.bm [] h1 (bL _ _ _) ⟨jU _,jU _,trivial⟩ ?_;simp only[bj,bA,bz,if_true];refine aC.g ?_;simp only[go_sem]
 refine ak.vM (b:=b) (cs:=l.cs) [] hb h ?_ ⟨jU m,jU l,trivial⟩ rfl ⟨rfl,rfl⟩;have h1:v7 b l.cs m.aH=m.aH:=rfl;have h2:v7 b l.cs (.ptr b 0)=.pp l.cs:=by simp[v7,Ar,Li.cs]
 simp only[aY,bq,aI,aR,h1,h2];exact bL _ _ _
set_option maxHeartbeats 1000000 in
theorem S4 (c:List Li) (hc:mX c):az Tryz.prog 29 [.ps 5 (lits c)] (.ps 5 (lits (iI c))):=by
 refine az.begin (rs:=[.tmp 2]) (m:=32) 1000 Tryz.func29 rfl rfl rfl (by decide) (bI _) ?_;have gM:=hc.2;simp only[go_sem,dA];refine aC.ep (ι:={q:Nat×List Li // q.1<=c.length/\iV q.2 (c.drop q.1)=iI c/\q.2.length<=q.1/\∀x∈q.2,ya x}) 1000
  (λq=>dV 33 [(3,eR 0 5 (lits q.1.2)),(7,.ps 5 (lits c)),(8,.int .i64 c.length),(9,.int .i64 q.1.1)])
  (λq=>[cX (lits q.1.2)]) (λq=>c.length-q.1.1) ⟨(0,[]),aj _,rfl,ae _,λx hx=>by cases hx⟩ [] ?_ (λ_=>by simp) ?_
 ·refine eL rfl ?_;simp only[go_sem,bI,bT (bI _),show lits []=[] from rfl,pU,pC]
 ·rintro ⟨⟨i,L⟩,hi,aD,C1,ko⟩;simp only at hi aD C1 ko;by_cases bx:(i:Int)<c.length
  case neg =>
   have dm:i=c.length:=by omega
   subst dm;rw[aJ,iV]at aD;simp only[go_sem,bx];refine aC.g ?_;simp only[go_sem];rw[<-aD,nI rfl rfl];trivial
  have aL:i<c.length:=by omega
  have hw:=W1' i (by omega)
  have g1:=qs aL;have xF:=hc.1 _ (ay aL);rw[ai aL,iV]at aD;generalize c[i]=l at *
  have vG:([.bool l.neg,.int .i64 l.l.head,.ps 2 (l.l.args.map Tm.aH),.int .i64 l.r.head,.ps 2 (l.r.args.map Tm.aH)]:List ah)=l.cs:=rfl;have hK:=Zo5 [cX (lits L),some (.var l.cs)] (b:=0) (.fn 64 [] [.ptr 1 0]) (λm=>dv l m) L rfl (by omega) ⟨BQ _ (bI L),jU l,trivial⟩ (by simp[go_sem]) (λj hj=>Ynp _ 1 l L[j] rfl (zv xF) (zv (ko _ (ay hj))));simp only[go_sem,bx,dA,g1,gf];refine⟨by omega,?_⟩;rw[vG];refine hK.mono ?_;rintro r σ' ⟨rfl,rfl⟩;rw[<-vG];obtain⟨z,hz⟩:∃z,(L.any λm=>dv l m)=z:=⟨_,rfl⟩;rw[hz]at aD ⊢;have hT:=VL l (zv xF);have wX:(z||l.neg&&lO l)=true->iV L (c.drop (i+1))=iI c:=λh=>by rw[if_pos h]at aD;exact aD
  have vF:(z||l.neg&&lO l)=false->iV (L++[l]) (c.drop (i+1))=iI c:=λh=>by rw[if_neg (by rw[h];simp)]at aD;exact aD
  clear aD;have h2:bW [cX (lits L),some (bS.var [.bool l.neg,.int .i64 l.l.head,.ps 2 (l.l.args.map Tm.aH),.int .i64 l.r.head,.ps 2 (l.r.args.map Tm.aH)]),some (bS.row [.agg [.bool l.neg,.int .i64 l.l.head,.ps 2 (l.l.args.map Tm.aH),.int .i64 l.r.head,.ps 2 (l.r.args.map Tm.aH)]] 0)] 0=cX (lits L):=rfl;have A_:lits [l]=[.agg [.bool l.neg,.int .i64 l.l.head,.ps 2 (l.l.args.map Tm.aH),.int .i64 l.r.head,.ps 2 (l.r.args.map Tm.aH)]]:=rfl;have nz:=of_eq_true (CJ [l]);rw[A_]at nz;have lw:bG 0 (lits (L++[l])):=bI _;have qi:lits (L++[l])=lits L++[.agg [.bool l.neg,.int .i64 l.l.head,.ps 2 (l.l.args.map Tm.aH),.int .i64 l.r.head,.ps 2 (l.r.args.map Tm.aH)]]:=by rw[<-A_];simp[lits]
  refine aC.g ?_;cases z
  case' true =>
   replace wX:=wX rfl;simp only[go_sem]
  case' false =>
   cases hn:l.neg
   case' false =>
    replace vF:=vF (by rw[hn];rfl);rw[hn]at nz qi h2;simp only[go_sem,hn,qg h2,nz,dA,hw]
   case' true =>
    have e1:l.aH=.agg [.bool true,.int .i64 l.l.head,.ps 2 (l.l.args.map Tm.aH),.int .i64 l.r.head,.ps 2 (l.r.args.map Tm.aH)]:=by rw[<-hn];rfl
    rw[hn]at h2 nz qi;simp only[go_sem,hn];refine ak.bm [] hT (by rw[e1];exact bL _ _ _) ⟨jU _,trivial⟩ ?_;simp only[bj,bA,bz,if_true];refine aC.g ?_;cases ht:lO l
    case' true =>
     replace wX:=wX (by rw[hn,ht];rfl);simp only[go_sem]
    case' false =>
     replace vF:=vF (by rw[hn,ht];rfl);simp only[go_sem,qg h2,nz,dA,hw]
  all_goals first
  | (refine⟨⟨(i+1,L),by simp only;omega,wX,by simp only;omega,ko⟩,[],eL rfl ?_,by simp only;omega⟩
     simp only[go_sem,bI,bT (bI _),K4 (bI L),hw]
     done)
  | (refine⟨by omega,⟨(i+1,L++[l]),by simp only;omega,vF,by simp only[aA,aq,aF];omega,λx hx=>(a_.1 hx).elim (ko x) λh=>by rw[aK.1 h];exact xF⟩,[(0,3),(3,0)],eL rfl ?_,by simp only;omega⟩
     dsimp only
     rw[qi]at lw ⊢;rw[GX,GO];simp only[go_sem,bI,bT (bI _),bT lw,iD (aj _) lw,dA]
     done)
  |trace_state
set_option maxHeartbeats 1000000 in
theorem Ymo (c:List Li) (hc:mX c):az Tryz.prog 67 [.ps 5 (lits c)] (.bool (kB c)):=by
 refine az.begin (rs:=[.tmp 2]) (m:=28) 1000 Tryz.func67 rfl rfl rfl (by decide) trivial ?_;have gM:=hc.2;obtain⟨W,hW⟩:∃W,kB c=W:=⟨_,rfl⟩;rw[hW];simp only[go_sem,dA];refine aC.cA (ι:={i:Nat // i<=c.length/\qL (c.take i) (c.drop i)=W}) 1000
  (λq=>dV 29 [(0,.ps 5 (lits c)),(2,.bool false),(6,.ps 5 (lits c)),(7,.int .i64 c.length),(8,.int .i64 q.1)])
  (λ_=>[]) (λq=>c.length-q.1) ⟨0,aj _,hW⟩ ?_ (λ_=>aj _) ?_
 ·simp only[go_sem,bI]
 ·rintro ⟨i,hi,aD⟩;by_cases bx:(i:Int)<c.length
  case neg =>
   have dm:i=c.length:=by omega
   subst dm;rw[aJ,qL]at aD;subst aD;simp only[go_sem,bx];refine aC.g ?_;simp only[go_sem]
  have aL:i<c.length:=by omega
  have hw:=W1' i (by omega)
  have g1:=qs aL;have xF:=hc.1 _ (ay aL);have oB:c.take (i+1)=c.take i++[c[i]]:=by rw[cx,ax aL,dx]
  rw[ai aL,qL,<-oB]at aD;generalize c[i]=l at *
  have vG:([.bool l.neg,.int .i64 l.l.head,.ps 2 (l.l.args.map Tm.aH),.int .i64 l.r.head,.ps 2 (l.r.args.map Tm.aH)]:List ah)=l.cs:=rfl;have htl:(lits c).take i=lits (c.take i):=by simp[lits,m_]
  have hK:=Kv [some (.var l.cs)] (.fn 104 [] [.ptr 0 0]) (λm=>qH l m) (c.take i) (by rw[bN];omega) ⟨jU l,trivial⟩ (by simp[go_sem]) (λj hj=>Yp7 _ 0 l (c.take i)[j] rfl (zv xF) (zv (hc.1 _ (np (ay hj)))));have hT:=VL l (zv xF);obtain⟨z,hz⟩:∃z,((c.take i).any λm=>qH l m)=z:=⟨_,rfl⟩;rw[hz]at aD hK;simp only[go_sem,bx,dA,g1,gf,htl,dQ]
  (repeat((with_reducible refine And.intro ?_ ?_);·omega))
  rw[vG];refine hK.mono ?_;rintro r σ' ⟨rfl,rfl⟩;rw[<-vG];have Bf:(z || !l.neg&&lO l)=true->true=W:=λh=>by rw[if_pos h]at aD;exact aD
  have zk:(z || !l.neg&&lO l)=false->qL (c.take (i+1)) (c.drop (i+1))=W:=λh=>by rw[if_neg (by rw[h];simp)]at aD;exact aD
  clear aD;refine aC.g ?_;cases z
  case' true =>
   replace Bf:=Bf rfl;simp only[go_sem]
  case' false =>
   cases hn:l.neg
   case' true =>
    replace zk:=zk (by rw[hn];rfl);simp only[go_sem,hn]
   case' false =>
    have e1:l.aH=.agg [.bool false,.int .i64 l.l.head,.ps 2 (l.l.args.map Tm.aH),.int .i64 l.r.head,.ps 2 (l.r.args.map Tm.aH)]:=by rw[<-hn];rfl
    simp only[go_sem,hn];refine ak.bm [] hT (by rw[e1];exact bL _ _ _) ⟨jU _,trivial⟩ ?_;simp only[bj,bA,bz,if_true];refine aC.g ?_;cases ht:lO l
    case' true =>
     replace Bf:=Bf (by rw[hn,ht];rfl);simp only[go_sem]
    case' false =>
     replace zk:=zk (by rw[hn,ht];rfl);simp only[go_sem]
  all_goals first
  | (refine⟨⟨i+1,by omega,zk⟩,?_,by simp only;omega⟩
     simp only[go_sem,bI,hw]
     done)
  | (subst Bf
     refine aC.g ?_;simp only[go_sem]
     done)
  |trace_state
def mn (S:List Int)(v:Int):List Int:=if v∈S then S else S++[v]
mutual
def Tm.num:Tm->List Int->Tm×List Int
 |.mk h ts,S=>if h<0 then (.mk (-1-((mn S (-1-h)).idxOf (-1-h):Int)) [],mn S (-1-h)) else (.mk h (Tm.gX ts S).1,(Tm.gX ts S).2)
def Tm.gX:List Tm->List Int->List Tm×List Int
 |[],S=>([],S)
 |t :: ts,S=>((t.num S).1 :: (Tm.gX ts (t.num S).2).1,(Tm.gX ts (t.num S).2).2)
end
def oW (S:List Int):List ah:=S.map (.int .i64 ·)
def tQ (S:List Int):List ah:=(List.range S.length).map λ(i:Nat)=>.int .i64 i
def lU (S:List Int):Option bS:=some (.map (oW S) (tQ S) false)
def lT:Option bS:=some (.var [.map 0])
theorem Tv (S:List Int)(v:Int):(mn S v).length<=S.length+1:=by unfold mn;split<;>simp
mutual
theorem P1:∀(t:Tm) (S:List Int),(t.num S).2.length<=S.length+t.size
 |.mk h ts,S=>by
  rw[Tm.num,Tm.size];split
  ·have:=Tv S (-1-h);simp only;omega
  ·have:=Zr ts S;simp only;omega
theorem Zr:∀(ts:List Tm) (S:List Int),(Tm.gX ts S).2.length<=S.length+Tm.bw ts
 |[],S=>by simp[Tm.gX]
 |t :: ts,S=>by
  rw[Tm.gX,Tm.bw];have:=P1 t S;have:=Zr ts (t.num S).2;simp only;omega
end
theorem Yd (S:List Int)(v:Int):(oW S).all (sameKind (.int .i64 v))=true:=by simp[oW,sameKind]
theorem Ylv (S:List Int):(oW S).length=S.length:=by simp[oW]
theorem OD (v:Int):∀(S:List Int) (n:Nat),fR (.int .i64 v) (oW S) n=if v∈S then some (n+S.idxOf v) else none
 |[],n=>by simp[oW,fR]
 | b :: S,n=>by
  have ih:=OD v S (n+1);simp only[oW,aI,fR]at ih ⊢;by_cases c:b=v
  ·have hc:fP (.int .i64 v) (.int .i64 b)=true:=by simp[fP,c]
   rw[hc,if_pos rfl,c,List.idxOf_cons_self,if_pos (by simp)];simp
  ·have hc:fP (.int .i64 v) (.int .i64 b)=false:=by simp only[fP,beq_eq_false_iff_ne];exact λe=>c e.symm
   rw[hc,if_neg (by simp),ih,List.idxOf_cons,show(b==v)=false by simpa using c,cond_false];by_cases hm:v∈S
   ·rw[if_pos hm,if_pos (by simp[hm])];congr 1;omega
   ·rw[if_neg hm,if_neg (by simp only[aU,not_or];exact⟨λe=>c e.symm,hm⟩)]
theorem Yds (S:List Int)(v:Int)(z:ah):fT (oW S) (tQ S) z (.int .i64 v) true=if v∈S then .dw [.int .i64 (S.idxOf v),.bool true] else .dw [z,.bool false]:=by
 unfold fT;rw[OD];by_cases hm:v∈S
 ·have bx:=jQ hm;rw[if_pos hm,if_pos hm];simp only[if_true,tQ,List.getD,cE,br];rw[List.getElem?_range bx];rfl
 ·rw[if_neg hm,if_neg hm];rfl
theorem Ybi {S:List Int}{v:Int}(h:v ∉ S):jN (oW S) (tQ S) (.int .i64 v) (.int .i64 S.length)=(oW (S++[v]),tQ (S++[v])):=by
 unfold jN;rw[OD,if_neg h];simp[oW,tQ,List.range_succ]
theorem E0 {n:Nat}(S:List Int):bG n (oW S)/\bG n (tQ S):=⟨wx λ_ _=>trivial,wx λ_ _=>trivial⟩
theorem Ymt {n:Nat}(S:List Int):ke n (lU S):=E0 S
theorem Yny (S:List Int) (v:Int) (hS:S.length<1000000000):ak Tryz.prog (.fn 113 [] [.ptr 1 0]) [.int .i64 v] [lU S,lT] (λr σ'=>r=.int .i64 ((mn S v).idxOf v)/\σ'=[lU (mn S v),lT]):=by
 refine ak.begin (rs:=[.tmp 3]) (m:=18) 1000 Tryz.func113 rfl rfl rfl rfl rfl ?_;have qz:=Yds S v (.int .i64 0);unfold lU lT mn;by_cases hm:v∈S
 ·rw[if_pos hm]at qz;rw[if_pos hm];simp only[go_sem,Yd,qz];rw[gy];exact⟨_,gL _,by simp,⟨E0 S,⟨cR,trivial⟩,trivial⟩,by simp[go_sem],rfl,rfl⟩
 ·rw[if_neg hm]at qz;rw[if_neg hm];have Jq:(S++[v]).idxOf v=S.length:=by rw[List.idxOf_append,if_neg hm];simp
  simp only[go_sem,Yd,qz,Ylv,Ybi hm];rw[gy];exact⟨_,gL _,by simp,⟨E0 _,⟨cR,trivial⟩,trivial⟩,by simp[go_sem],by rw[Jq],rfl⟩
theorem ak.E9 {P:Program} {σ:av} {g:FuncId} {fn:Func} {c:Code} {first captured args all:List ah} {K:ah->av->Prop} {m:Nat} {rs:List ResultVar} (hf:P.funcs[g]? = some fn) (hb:fn.body=some c) (hr:fn.results.toList=rs)
  (fj : first ++ args ++ captured = all) (hm : fn.ntmps - all.length = m) (fe : (fn.name == "runtime.NumGoroutine") = false)
  (h:aC P ⟨σ.length,none⟩ (rL P rs (BB K σ.length)) [.code c] .normal ⟨all++List.replicate m .undef,σ⟩):ak P (.fn g first captured) args σ K:=by
 subst hr hm;exact ak.sh (by rw[fj];exact cj.tree (cj.body hf hb fe h))
theorem Vc {K:ah->av->Prop}{n:Nat}{r0:ah}{σ':av}:BB K n r0 σ' = ∃r mP,pT (λb=>decide (n<=b)) σ' r r0/\ic mP σ'/\mP.length=n/\bH n mP/\r.low 0/\K r mP:=rfl
def Gf:ah:=.fn 113 [] [.ptr 1 0]
def mK (S:List Int):av:=[lU S,lT]
theorem OZ (S:List Int):bH 2 (mK S):=⟨Ymt S,⟨cR,trivial⟩,trivial⟩
@[go_sem]theorem Xaf {n:Nat}(S:List Int):bG n (oW S)=True:=eq_true (E0 S).1
@[go_sem]theorem Xab {n:Nat}(S:List Int):bG n (tQ S)=True:=eq_true (E0 S).2
@[go_sem]theorem Xam {π:Nat->Nat}(S:List Int):eC π (oW S)=oW S:=bT (E0 S).1
@[go_sem]theorem Xah {π:Nat->Nat}(S:List Int):eC π (tQ S)=tQ S:=bT (E0 S).2
theorem PG {f:ah} {args:List ah} {S S':List Int} {x:ah} {τ:av} {K:ah->av->Prop} (h:ak Tryz.prog f args (mK S) (λr σ'=>r=x/\σ'=mK S')) (hf:f.low 2) (ha:bG 2 args)
  (hk:K x (lU S' :: lT :: τ)):ak Tryz.prog f args (lU S :: lT :: τ) K:=by
 refine ak.tail (σ:=mK S) (τ:=τ) hf ha (OZ S) (h.mono ?_);rintro _ _ ⟨rfl,rfl⟩;exact⟨rfl,hk⟩
theorem HQ (wr:List Nat):∀(i:Nat) (τ:av),ew wr i τ τ = τ
 |_,[]=>rfl
 |i,x :: τ=>by simp only[ew,HQ wr (i+1) τ,ite_self]
theorem Ylt {f:ah} {args:List ah} {S S':List Int} {x:ah} {τ:av} {lo:Ctx} {Q:cB->St->Prop} {k:List KI} {ops:Array Oper} {dst:Option Tmp} {ol:List Oper} {fs:List Fp} {tm:List ah}
  (h:ak Tryz.prog f args (mK S) (λr σ'=>r=x/\σ'=mK S')) (hf:f.low 2) (ha:bG 2 args) (hk:iw Tryz.prog lo Q k ops ol fs (put tm dst x) (lU S' :: lT :: τ)) :
  oN Tryz.prog lo Q k ops [0] dst ol fs tm (lU S :: lT :: τ) (lU S :: lT :: τ) f args:=by
 refine⟨x,lU S' :: lT :: τ,PG h hf ha ⟨rfl,rfl⟩,⟨.inl rfl,Cr _ _ _⟩,?_⟩;have:ew [0] 0 (lU S' :: lT :: τ) (lU S :: lT :: τ)=lU S' :: lT :: τ:=by
  show(if ([0]:List Nat).contains 0=true then lU S' else lU S):: ew [0] 1 (lT :: τ) (lT :: τ) = _
  rw[HQ];rfl
 rw[this];exact hk
theorem YF:∀(n:Nat) (t:Tm) (S:List Int),t.size<=n->t.size<=100000000->t.fit->S.length+t.size<1000000000 ->
  ak Tryz.prog (.fn 114 [] []) [.agg [Gf],t.aH] (mK S) (λr σ'=>r=(t.num S).1.aH/\σ'=mK (t.num S).2)
 |0,t,S,h,_,_,_=>by have:=n9 t;omega
 | n+1,t,S,h,hs,hf,hS=>by
  refine ak.E9 (rs:=[.cell 4 70]) (m:=37) Tryz.func114 rfl rfl rfl rfl (by decide) ?_;have eM:=n9 t;have nw:=mH t.args;obtain⟨hd,ts⟩:=t;have ha:=(yp hd ts).symm;by_cases dP:hd<0
  ·have fA:IntKind.i64.wrap (-1-hd) = -1-hd:=by have:=hf.1;exact dt (by unfold nj at *;omega)
   have FP:(Tm.mk hd ts).num S=(.mk (-1-((mn S (-1-hd)).idxOf (-1-hd):Int)) [],mn S (-1-hd)):=by rw[Tm.num,if_pos dP]
   rw[FP];refine aC.g ?_;simp only[go_sem,mK,Gf,ha,dP,fA];have hb:(mn S (-1-hd)).length<2000000000:=by have:=Tv S (-1-hd);omega
   have Jq:(mn S (-1-hd)).idxOf (-1-hd)<=(mn S (-1-hd)).length:=List.idxOf_le_length;refine PG (Yny S (-1-hd) (by omega)) ⟨trivial,eX,trivial⟩ ⟨trivial,trivial⟩ ?_;refine aC.g ?_;have hw:IntKind.i64.wrap (-1-(((mn S (-1-hd)).idxOf (-1-hd):Nat):Int)) = -1-(((mn S (-1-hd)).idxOf (-1-hd):Nat):Int):=dt (by omega);simp only[go_sem,hw];rw[Vc];refine⟨(Tm.mk (-1-(((mn S (-1-hd)).idxOf (-1-hd):Nat):Int)) []).aH,mK (mn S (-1-hd)),?_,?_,rfl,OZ _,cV _,rfl,rfl⟩
   ·rw[<-yp];exact⟨rfl,rfl,bL _ _ _⟩
   ·simp[mK,ic]
  ·have FP:(Tm.mk hd ts).num S=(.mk hd (Tm.gX ts S).1,(Tm.gX ts S).2):=by rw[Tm.num,if_neg dP]
   rw[FP];obtain⟨Z,hZ⟩:∃Z,Tm.gX ts S=Z:=⟨_,rfl⟩;rw[hZ];refine aC.g ?_;simp only[go_sem,mK,Gf,ha,dP,ao];refine aC.ep (ι:={q:Nat×List Tm×List Int // q.1<=ts.length/\Z=(q.2.1++(Tm.gX (ts.drop q.1) q.2.2).1,(Tm.gX (ts.drop q.1) q.2.2).2)/\q.2.1.length=q.1/\q.2.2.length+Tm.bw (ts.drop q.1)<=S.length+Tm.bw ts}) 1000
    (λq=>dV 39 [(2,.ptr 2 0),(4,.ptr 4 0),(5,.ptr 5 0),(23,.ps 2 (ts.map Tm.aH)),(24,.int .i64 ts.length),(25,.int .i64 q.1.1)])
    (λq=>[lU q.1.2.2,lT,some (.var [.fn 113 [] [.ptr 1 0]]),none,some (.var [.int .i64 0,.a8]),some (.var [.int .i64 hd,eR 6 2 (q.1.2.1.map Tm.aH)]),cX (q.1.2.1.map Tm.aH)])
    (λq=>ts.length-q.1.1) ⟨(0,[],S),by omega,by simp[hZ],rfl,ae _⟩ [] ?_ (λ_=>by simp) ?_
   ·refine eL rfl ?_;simp only[go_sem,aR,pU,pC,bC,bT (bC _),lU,lT]
   ·rintro⟨⟨i,L,S'⟩,hi,aD,hL,qb⟩;simp only at hi aD hL qb;simp only[Tm.args]at eM nw;by_cases bx:(i:Int)<ts.length
    ·have aL:i<ts.length:=by omega
     have hw:=W1' i (by omega)
     have hg:(ts.map Tm.aH).getD i .undef=ts[i].aH:=jT aL;rw[ai aL,Tm.gX]at aD;rw[ai aL,Tm.bw]at qb;have rX:=GV (zH hf) i aL;simp only[Tm.args]at rX;have a1:=zC ts i aL;have a2:=yj ts (i+1);simp only[go_sem,bx,ao,hg,dO];refine⟨by omega,?_⟩;refine aC.draw [⟨none,[],[0,8]⟩,⟨none,[],[0,8]⟩,.no,.no,⟨none,[0],[]⟩,⟨some 8,[8],[]⟩,⟨some 9,[6,9],[]⟩,.no,⟨none,[5],[]⟩] 8 10 mixed rfl rfl (by decide) ?_;simp only[go_sem,cM];obtain⟨x,hx⟩:∃x,ts[i]=x:=⟨_,rfl⟩;simp only[hx]at rX a1 aD qb ⊢;have vJ:=P1 x S';have pq:=YF n x S' (by omega) (by omega) rX (by omega);rw[cq x]at pq;generalize hz:x.num S'=z at *
     obtain⟨y,S2⟩:=z;simp only at pq aD vJ;refine Ylt pq ⟨trivial,trivial⟩ ⟨⟨⟨trivial,eX,trivial⟩,trivial⟩,⟨trivial,bC _,trivial⟩,trivial⟩ ?_;have h3:bW ([lU S2,lT,some (bS.var [.fn 113 [] [.ptr 1 0]]),none,some (.var [.int .i64 0,.a8]),some (.var [.int .i64 hd,eR 6 2 (L.map Tm.aH)]),cX (L.map Tm.aH),some (.var [.int .i64 x.head,.ps 2 (x.args.map Tm.aH)]),some (.row [y.aH] 0),none]) 6=cX (L.map Tm.aH):=rfl;have nz:=of_eq_true (BO [y]);rw[show[y].map Tm.aH=[y.aH] from rfl]at nz
     have pI:List.take 1 [y.aH]=[y.aH]:=rfl;simp only[go_sem,qg h3,nz,ao,pI,dO];refine⟨by omega,?_⟩;refine aC.g ?_;simp only[go_sem,hw];refine⟨⟨(i+1,L++[y],S2),by simp only;omega,by simp only;rw[aD];simp,by simp[hL],by simp only;omega⟩,[(6,9),(9,6)],eL rfl ?_,by simp only;omega⟩;have lw:bG 0 ((L++[y]).map Tm.aH):=bC _;dsimp only
     rw[cf]at lw ⊢;rw[qP (by simp),qQ (by simp)];simp only[aI,aR]at lw;simp only[go_sem,lU,lT,bC,bT (bC _),bT lw,iD (aj 7) lw,ao,aq,aF,aI,aR]
    ·have dm:i=ts.length:=by omega
     subst dm;rw[aJ,Tm.gX,bf]at aD;subst aD;simp only[go_sem,bx];refine aC.g ?_;simp only[go_sem,Ac];rw[Vc];refine⟨(Tm.mk hd L).aH,mK S',?_,by simp[mK,lT,ic],rfl,OZ _,cV _,rfl,rfl⟩;rw[<-yp];refine⟨rfl,?_,bL _ _ _⟩;rw[nI rfl rfl];trivial
def yL (l:List Tm):List Tm×Int:=if jz l then ([],1) else ((Tm.gX l []).1,0)
theorem Ym0 (l:List Tm) (hs:Tm.bw l<99999999) (hf:Tm.fits l):az Tryz.prog 73 [.ps 2 (l.map Tm.aH)] (.dw [.ps 2 ((yL l).1.map Tm.aH),.int .i64 (yL l).2]):=by
 refine az.begin (rs:=[.tmp 2,.tmp 3]) (m:=27) 1000 Tryz.func73 rfl rfl rfl (by decide) ⟨bC _,trivial,trivial⟩ ?_;have nw:=mH l;have hw:=Od l (by omega) (λt ht=>by have:=sO ht;omega);unfold yL;simp only[go_sem];refine ak.bm [] (hw) (by(try simp only[cq]);exact bL _ _ _) (by simp[go_sem,cV,bC]) ?_;simp only[bj,bA,bz,if_true];refine aC.g ?_
 cases hW:jz l
 case' true=>simp only[go_sem,aR]
 case' false =>
  obtain⟨Z,hZ⟩:∃Z,Tm.gX l []=Z:=⟨_,rfl⟩;rw[hZ];simp only[go_sem,ao];refine aC.ep (ι:={q:Nat×List Tm×List Int // q.1<=l.length/\Z=(q.2.1++(Tm.gX (l.drop q.1) q.2.2).1,(Tm.gX (l.drop q.1) q.2.2).2)/\q.2.1.length=q.1/\q.2.2.length+Tm.bw (l.drop q.1)<=Tm.bw l}) 1000
   (λq=>dV 28 [(5,.ptr 2 0),(6,eR 3 2 (q.1.2.1.map Tm.aH)),(14,.ps 2 (l.map Tm.aH)),(15,.int .i64 l.length),(16,.int .i64 q.1.1)])
   (λq=>[lU q.1.2.2,lT,some (.var [.fn 113 [] [.ptr 1 0]]),cX (q.1.2.1.map Tm.aH)])
   (λq=>l.length-q.1.1) ⟨(0,[],[]),by omega,by simp[hZ],rfl,by simp⟩ [] ?_ (λ_=>by simp) ?_
  ·refine eL rfl ?_;simp only[go_sem,aR,pU,pC,bC,bT (bC _),lU,lT,show oW []=[] from rfl,show tQ []=[] from rfl]
  ·rintro⟨⟨i,L,S⟩,hi,aD,hL,eM⟩;simp only at hi aD hL eM;by_cases bx:(i:Int)<l.length
   ·have aL:i<l.length:=by omega
    have hw:=W1' i (by omega)
    have hg:(l.map Tm.aH).getD i .undef=l[i].aH:=jT aL;rw[ai aL,Tm.gX]at aD;rw[ai aL,Tm.bw]at eM;have rX:=GV hf i aL;obtain⟨x,hx⟩:∃x,l[i]=x:=⟨_,rfl⟩;have a1:=sn l i aL;simp only[hx]at rX aD eM hg a1;have vJ:=P1 x S;simp only[go_sem,bx,ao,hg,dO];refine⟨by omega,?_⟩;have pq:=YF x.size x S (ae _) (by omega) rX (by omega);rw[cq x]at pq;generalize hz:x.num S=z at *
    obtain⟨y,S2⟩:=z;simp only at pq aD vJ;refine PG pq ⟨trivial,trivial⟩ ⟨⟨⟨trivial,eX,trivial⟩,trivial⟩,⟨trivial,bC _,trivial⟩,trivial⟩ ?_;have h3:bW [lU S2,lT,some (bS.var [.fn 113 [] [.ptr 1 0]]),cX (L.map Tm.aH),some (.var [.int .i64 x.head,.ps 2 (x.args.map Tm.aH)]),some (.row [y.aH] 0)] 3=cX (L.map Tm.aH):=rfl;have nz:=of_eq_true (BO [y]);rw[show[y].map Tm.aH=[y.aH] from rfl]at nz
    have pI:List.take 1 [y.aH]=[y.aH]:=rfl;refine aC.g ?_;simp only[go_sem,qg h3,nz,ao,pI,dO,hw];refine⟨by omega,?_⟩;refine⟨⟨(i+1,L++[y],S2),by simp only;omega,by simp only;rw[aD];simp,by simp[hL],by simp only;omega⟩,[(3,6),(6,3)],eL rfl ?_,by simp only;omega⟩;have lw:bG 0 ((L++[y]).map Tm.aH):=bC _;dsimp only
    rw[cf]at lw ⊢;rw[qP (by simp),qQ (by simp)];simp only[aI,aR]at lw;simp only[go_sem,lU,lT,bC,bT (bC _),bT lw,iD (aj 4) lw,ao,aq,aF,aI,aR]
   ·have dm:i=l.length:=by omega
    subst dm;rw[aJ,Tm.gX,bf]at aD;subst aD;simp only[go_sem,bx];refine aC.g ?_;simp only[go_sem,Ac];rw[nI rfl rfl];trivial
def zZ:List Li->List Tm->List Li
 |l :: c,a :: b :: ts=>⟨l.neg,a,b⟩ :: zZ c ts
 |_,_=>[]
def px (c:List Li):List Li:=zZ c (Tm.gX (cH c) []).1
def og (c:List Li):List Li×Int:=if jz (cH c) then ([],1) else (px c,0)
theorem Yn7 (c:List Li) (ts:List Tm) (i:Nat) (hi:i<c.length) (h:ts.length=2*c.length) :
  zZ (c.drop i) (ts.drop (2*i))=⟨c[i].neg,ts[2*i]'(by omega),ts[2*i+1]'(by omega)⟩ :: zZ (c.drop (i+1)) (ts.drop (2*(i+1))):=by
 rw[ai hi,ai (by omega : 2*i<ts.length),ai (by omega : 2*i+1<ts.length),zZ];rfl
theorem VP:∀(ts:List Tm) (S:List Int),(Tm.gX ts S).1.length=ts.length
 |[],_=>rfl
 |t :: ts,S=>by rw[Tm.gX];simp[VP ts]
theorem Yvn (c:List Li) (ts:List Tm) (h:ts.length=2*c.length) (hc:c.length<1000000):az Tryz.prog 75 [.ps 5 (lits c),.ps 2 (ts.map Tm.aH)] (.ps 5 (lits (zZ c ts))):=by
 refine az.begin (rs:=[.tmp 4]) (m:=32) 1000 Tryz.func75 rfl rfl rfl (by decide) (bI _) ?_;obtain⟨Z,hZ⟩:∃Z,zZ c ts=Z:=⟨_,rfl⟩;rw[hZ];simp only[go_sem,dA];refine aC.ep (ι:={q:Nat×List Li // q.1<=c.length/\Z=q.2++zZ (c.drop q.1) (ts.drop (2*q.1))/\q.2.length=q.1}) 1000
  (λq=>dV 34 [(1,.ps 2 (ts.map Tm.aH)),(5,eR 0 5 (lits q.1.2)),(8,.ps 5 (lits c)),(9,.int .i64 c.length),(10,.int .i64 q.1.1)])
  (λq=>[cX (lits q.1.2)]) (λq=>c.length-q.1.1) ⟨(0,[]),aj _,by simp[hZ],rfl⟩ [] ?_ (λ_=>by simp) ?_
 ·refine eL rfl ?_;simp only[go_sem,bI,bT (bI _),show lits []=[] from rfl,pU,pC,bC,bT (bC _)]
 ·rintro⟨⟨i,L⟩,hi,aD,hL⟩;simp only at hi aD hL;by_cases bx:(i:Int)<c.length
  ·have aL:i<c.length:=by omega
   have hw:=W1' i (by omega)
   have lE:IntKind.i64.wrap (2*(i:Int))=((2*i:Nat):Int):=by rw[dt (by omega)];omega
   have Be:IntKind.i64.wrap (((2*i:Nat):Int)+1)=((2*i+1:Nat):Int):=by rw[dt (by omega)];omega
   have g1:=qs aL;rw[Yn7 c ts i aL h]at aD;have l1 : 2*i<ts.length:=by omega
   have l2 : 2*i+1<ts.length:=by omega
   have l1':((2*i:Nat):Int)<ts.length:=by omega
   have l2':((2*i+1:Nat):Int)<ts.length:=by omega
   have D5:(ts.map Tm.aH).getD (2*i) .undef=(ts[2*i]).aH:=jT l1;have gt2:(ts.map Tm.aH).getD (2*i+1) .undef=(ts[2*i+1]).aH:=jT l2;generalize ts[2*i]=a at *
   generalize ts[2*i+1]=b at *
   generalize c[i]=l at *
   simp only[go_sem,bx,dA,g1,gf];refine⟨by omega,?_⟩;refine aC.draw [⟨none,[],[2]⟩,.no,.no,.no,.no,.no,.no,.no,.no,.no,.no,.no,.no,.no,.no,⟨some 2,[2],[]⟩,⟨some 3,[0,3],[]⟩] 2 4 mixed rfl rfl (by decide) ?_;have h2:bW [cX (lits L),some (.var [.bool l.neg,.int .i64 l.l.head,.ps 2 (l.l.args.map Tm.aH),.int .i64 l.r.head,.ps 2 (l.r.args.map Tm.aH)]),some (.row [.agg [.bool l.neg,.int .i64 a.head,.ps 2 (a.args.map Tm.aH),.int .i64 b.head,.ps 2 (b.args.map Tm.aH)]] 0),none] 0=cX (lits L):=rfl;have A_:lits [(⟨l.neg,a,b⟩:Li)]=[.agg [.bool l.neg,.int .i64 a.head,.ps 2 (a.args.map Tm.aH),.int .i64 b.head,.ps 2 (b.args.map Tm.aH)]]:=rfl;have nz:=of_eq_true (CJ [(⟨l.neg,a,b⟩:Li)]);rw[A_]at nz;have qi:lits (L++[(⟨l.neg,a,b⟩:Li)])=lits L++[.agg [.bool l.neg,.int .i64 a.head,.ps 2 (a.args.map Tm.aH),.int .i64 b.head,.ps 2 (b.args.map Tm.aH)]]:=by rw[<-A_];simp[lits]
   have lw:bG 0 (lits (L++[(⟨l.neg,a,b⟩:Li)])):=bI _;have pI:List.take 1 [ah.agg [.bool l.neg,.int .i64 a.head,.ps 2 (a.args.map Tm.aH),.int .i64 b.head,.ps 2 (b.args.map Tm.aH)]]=[.agg [.bool l.neg,.int .i64 a.head,.ps 2 (a.args.map Tm.aH),.int .i64 b.head,.ps 2 (b.args.map Tm.aH)]]:=rfl;simp only[go_sem,cM,lE,Be,ao,D5,gt2,l1',l2',dO,qg h2,nz,dA,pI];refine⟨by omega,by omega,by omega,?_⟩;refine aC.g ?_;simp only[go_sem,hw];refine⟨⟨(i+1,L++[(⟨l.neg,a,b⟩:Li)]),by simp only;omega,by simp only;rw[aD];simp,by simp[hL]⟩,[(0,3),(3,0)],eL rfl ?_,by simp only;omega⟩;dsimp only
   rw[qi]at lw ⊢;rw[qP (by simp),qQ (by simp)];simp only[go_sem,bI,dA,bT (bI _),bC,bT (bC _),bT lw,iD (aj 1) lw,ao,aq,aF]
  ·have dm:i=c.length:=by omega
   subst dm;rw[aJ,zZ.eq_2 _ _ (by simp),bf]at aD;subst aD;simp only[go_sem,bx];refine aC.g ?_;simp only[go_sem,Ac];rw[nI rfl rfl];trivial
theorem Ynh {c:List Li}(h:mX c):∀t∈cH c,t.size<99999999/\t.fit:=λt ht=>by
 unfold cH at ht;rw[mS]at ht;obtain⟨l,hl,ht⟩:=ht;obtain⟨⟨a1,a2⟩,a3,a4⟩:=h.1 l hl;simp only[aU,dU,or_false]at ht;rcases ht with rfl|rfl
 ·exact⟨a2,a1⟩
 ·exact⟨a4,a3⟩
theorem Ta:∀ {ts:List Tm},(∀t∈ts,t.fit)->Tm.fits ts
 |[],_=>trivial
 |t :: ts,h=>⟨h t (by simp),Ta λx hx=>h x (by simp[hx])⟩
theorem LF (c:List Li) (hc:mX c) (hs:Tm.bw (cH c)<99999999):az Tryz.prog 34 [.ps 5 (lits c)] (.dw [.ps 5 (lits (og c).1),.int .i64 (og c).2]):=by
 refine az.begin (rs:=[.tmp 2,.tmp 3]) (m:=17) 1000 Tryz.func34 rfl rfl rfl (by decide) ⟨bI _,trivial,trivial⟩ ?_;have h1:=Ygb c hc.2;have h2:=Ym0 (cH c) hs (Ta λt ht=>(Ynh hc t ht).2);have hn:(Tm.gX (cH c) []).1.length=2*c.length:=by rw[VP,EM]
 have h3:=Yvn c (Tm.gX (cH c) []).1 hn hc.2;have hz:og c=if jz (cH c) then ([],1) else (zZ c (Tm.gX (cH c) []).1,0):=rfl
 have hy:yL (cH c)=if jz (cH c) then ([],1) else ((Tm.gX (cH c) []).1,0):=rfl
 simp only[go_sem];refine ak.bm [] (h1) (by(try simp only[cq]);exact bL _ _ _) (by simp[go_sem,cV,bC,bI]) ?_;rw[eW];simp only[ite_self];refine aC.g ?_
 simp only[go_sem];refine ak.bm [] (h2) (by(try simp only[cq]);exact bL _ _ _) (by simp[go_sem,cV,bC,bI]) ?_;rw[eW];simp only[ite_self];refine aC.g ?_
 rw[hy,hz];cases hW:jz (cH c)
 case' true=>simp only[go_sem,show lits []=[] from rfl]
 case' false =>
  simp only[go_sem];refine ak.bm [] (h3) (by(try simp only[cq]);exact bL _ _ _) (by simp[go_sem,cV,bC,bI]) ?_;rw[eW];simp only[ite_self];refine aC.g ?_
  simp only[go_sem]
structure Wk where
 d:List Li
 u:List Int
 gone:Int
 uP:Int
 e:Int
def lW (g:List Sy)(es:List (List Li))(W:Wk)(j:Nat):Option bS:=some (.var [.ps 4 (syms g),.ps 1 (c9 es),.ps 5 (lits W.d),eR j 1 (ints W.u),.int .i64 W.gone,.int .i64 W.uP,.int .i64 W.e])
def qN (g:List Sy)(es:List (List Li))(W:Wk)(j:Nat):av:=lW g es W (j+1):: (List.replicate j none++[cX (ints W.u)])
def kR (k:Int)(W:Wk):Wk:=if k∈W.u then W else { W with u:=W.u++[k] }
theorem Ytj (g:List Sy)(es:List (List Li))(W:Wk){j n:Nat}(h:j<n):ke n (lW g es W j):=by
 unfold lW;exact⟨cS _,eh _,bI _,um h _ _,trivial,trivial,trivial,trivial⟩
theorem Lr (l:List Int){n:Nat}:ke n (cX (ints l)):=BQ _ (cY l)
theorem Iq (g:List Sy)(es:List (List Li))(W:Wk)(j:Nat):(qN g es W j).length=j+2:=by simp[qN]
theorem Qi (g:List Sy) (es:List (List Li)) (W:Wk) (j:Nat) {n:Nat} (h:j+2<=n):bH n (qN g es W j):=by
 unfold qN;refine⟨Ytj g es W (by omega),?_⟩
 induction j with
 |zero=>exact⟨Lr _,trivial⟩
 |succ j ih =>
  rw[eS,bq,NR];exact ih (by omega)
def Cj (g:List Sy)(es:List (List Li))(R:ah->Nat->Wk->Prop)(r:ah)(σ':av):Prop:=∃m W',R r m W'/\σ'=qN g es W' m
theorem zG {g:List Sy}{es:List (List Li)}{R:ah->Nat->Wk->Prop}{r:ah}{S:av}(m:Nat)(W':Wk)(h:R r m W')(hr:r.low 0)(hS:ic (qN g es W' m) S):mI (Cj g es R) 2 r S:=by
 rw[gy];exact⟨qN g es W' m,hS,by rw[Iq];omega,Qi g es W' m (by rw[Iq];omega),oJ (aj _) hr,m,W',h,rfl⟩
def SE (k:Int)(W:Wk)(r:ah)(m:Nat)(W':Wk):Prop:=r=.dw []/\W'=kR k W/\(m=0\/m=2)
theorem CN (g:List Sy)(es:List (List Li))(W:Wk):qN g es W 0=[some (.var [.ps 4 (syms g),.ps 1 (c9 es),.ps 5 (lits W.d),eR 1 1 (ints W.u),.int .i64 W.gone,.int .i64 W.uP,.int .i64 W.e]),cX (ints W.u)]:=rfl
theorem UT (g:List Sy) (es:List (List Li)) (W:Wk) (k:Int) (hu:W.u.length<1000000):ak Tryz.prog (.fn 69 [] []) [.ptr 0 0,.int .i64 k] (qN g es W 0) (Cj g es (SE k W)):=by
 refine ak.begin (rs:=[]) (m:=19) 1000 Tryz.func69 rfl rfl rfl rfl rfl ?_;rw[CN];simp only[go_sem];refine ak.bm [1] (Ku W.u k (by omega)) ?_ ⟨cY _,trivial,trivial⟩ ?_
 ·simp only[go_sem,k_,lb,nI]
 simp only[bj,bA,bz,if_true];refine aC.g ?_;by_cases c:k∈W.u
 ·simp only[go_sem,c];exact zG 0 W ⟨rfl,by unfold kR;rw[if_pos c],.inl rfl⟩ trivial (gL _)
 ·have h2:bW [some (.var [.ps 4 (syms g),.ps 1 (c9 es),.ps 5 (lits W.d),eR 1 1 (ints W.u),.int .i64 W.gone,.int .i64 W.uP,.int .i64 W.e]),cX (ints W.u),some (.row [.int .i64 k] 0)] 1=cX (ints W.u):=rfl;have nz:eE ⟨1,false,8,[.int .i64 0],.int .i64⟩ [.int .i64 k]:=⟨λx hx=>by rw[aK.1 hx];exact⟨rfl,rfl⟩,by decide,by decide,rfl⟩;have hle:W.u.length+1<=6000000000000:=by omega
  simp only[go_sem,c,qg h2,ja,nz,hle];refine zG 2 { W with u:=W.u++[k] } ⟨rfl,by unfold kR;rw[if_neg c],.inr rfl⟩ trivial ?_;unfold qN lW;simp only
  rw[yV,qP (by simp),qQ (by simp),ja];simp[ic,List.replicate]
theorem P0 (g:List Sy)(es:List (List Li))(W:Wk)(j:Nat)(π:Nat->Nat):(lW g es W j).map (eo π)=lW g es W (π j):=by
 unfold lW;rw[bD];simp[eo,eC,ez,yZ,bT (cS _),bT (eh _),bT (bI _)]
theorem GU (l:List Int) (π:Nat->Nat):(cX (ints l)).map (eo π)=cX (ints l):=by
 cases l with
 |nil=>rfl
 |cons a t =>
  have lw:bG 0 (ints (a :: t)):=cY _;show Option.map (eo π) (some (.row (ints (a :: t)) 0)) = _;rw[bD,xv,bT lw];rfl
def wkE (g:List Sy)(es:List (List Li))(σ:av)(a j:Nat)(W':Wk):Nat->av
 |0=>(σ.set a (lW g es W' j)).set j (cX (ints W'.u))
 |m+1=>(σ.set a (lW g es W' (σ.length+m))).set j none++(List.replicate m none++[cX (ints W'.u)])
theorem Kr {g:List Sy} {es:List (List Li)} {W:Wk} {R:ah->Nat->Wk->Prop} {f f':ah} {args args':List ah} {σ:av} {K:ah->av->Prop} (a j:Nat) (Z8:a≠j) (h0 : σ[a]? = some (lW g es W j)) (h1 : σ[j]? = some (cX (ints W.u)))
  (hf:f.low 2) (pG:ez (λb=>if b=0 then a else j) f=f') (ha:bG 2 args) (ha':eC (λb=>if b=0 then a else j) args=args')
  (h:ak Tryz.prog f args (qN g es W 0) (Cj g es R)) (hr:∀r m W',R r m W'->r.low 0) (hk:∀r m W',R r m W'->K r (wkE g es σ a j W' m)):ak Tryz.prog f' args' σ K:=by
 have nw:a < σ.length:=(aN.1 h0).1;have sC:j < σ.length:=(aN.1 h1).1;have hZ:(qN g es W 0).length=2:=Iq g es W 0;refine ak.kI (Z:=qN g es W 0) (λb=>if b=0 then a else j) (λb b' h1 h2 e=>?_) (λb hb=>?_) (λb hb=>?_) (by rw[hZ];exact hf) pG (by rw[hZ];exact ha) ha' (by rw[hZ];exact Qi g es W 0 (ae _)) h ?_
 ·rw[hZ]at h1 h2;split at e<;>split at e<;>first|omega|exact absurd e Z8|exact absurd e.symm Z8
 ·split<;>assumption
 ·rw[hZ]at hb
  match b,hb with
  |0,_=>exact⟨lW g es W 1,rfl,by rw[P0];exact h0⟩
  |1,_=>exact⟨cX (ints W.u),rfl,by rw[GU];exact h1⟩
 rintro r Z' ⟨m,W',hR,rfl⟩;have MF:=hr r m W' hR;rw[hZ];refine⟨by rw[Iq];omega,by rw[Iq];exact Qi g es W' m (ae _),oJ (aj _) MF,?_⟩;rw[zJ MF];have he:ix (λb=>if b=0 then a else j) 2 (qN g es W' m) σ=wkE g es σ a j W' m:=by
  cases m with
  |zero =>
   show eQ _ _ 0 [lW g es W' 1,cX (ints W'.u)] σ++[] = _;rw[bf,eQ,eQ,eQ,P0,GU];rfl
  |succ m =>
   show eQ _ _ 0 [lW g es W' (m+2),none] σ++(List.replicate m none++[cX (ints W'.u)]).map _ = _;rw[eQ,eQ,eQ,P0,cf,List.map_replicate,aI,aR,GU];have:lX (λb=>if b=0 then a else j) 2 σ.length (m+2) = σ.length+m:=by unfold lX;rw[if_neg (by omega)];omega
   rw[this];rfl
 rw[he];exact hk r m W' hR
def uc (z:Int×Wk)(r:ah)(m:Nat)(W':Wk):Prop:=r=.int .i64 z.1/\W'=z.2/\(m=0\/z.1=1/\(m=1\/m=4))
def iY (W:Wk):Int×Wk:=if kB W.d=true then (2,{ W with gone:=1 }) else (0,W)
def ky:Nat->List (List Li)->List Li->Option Nat
 |_,[],_=>none
 |k,c :: es,d=>if (r9 c d).2=0/\(r9 c d).1=true then some k else ky (k+1) es d
def kf (es:List (List Li))(W:Wk):Int×Wk:=match ky 0 es W.d with
 |some k=>(2,{ W with gone:=2,uP:=(k:Int) })
 |none=>(0,W)
theorem Yis (g:List Sy)(es:List (List Li))(W:Wk)(hd:mX W.d):ak Tryz.prog (.fn 30 [.ptr 0 0] []) [] (qN g es W 0) (Cj g es (uc (iY W))):=by
 refine ak.begin (rs:=[.tmp 2]) (m:=11) 1000 Tryz.func30 rfl rfl rfl rfl rfl ?_;rw[CN];have hT:=Ymo W.d hd;simp only[go_sem];refine ak.bm [] hT (bL _ _ _) ⟨bI _,trivial⟩ ?_;simp only[bj,bA,bz,if_true];refine aC.g ?_;cases h:kB W.d
 ·simp only[go_sem];exact zG 0 W ⟨by unfold iY;rw[h];rfl,by unfold iY;rw[h];rfl,.inl rfl⟩ trivial (gL _)
 ·simp only[go_sem];exact zG 0 { W with gone:=1 } ⟨by unfold iY;rw[h];rfl,by unfold iY;rw[h];rfl,.inl rfl⟩ trivial (gL _)
theorem Yng (g:List Sy) (es:List (List Li)) (W:Wk) (kp:∀c∈es,mX c) (hl:es.length<1000000) (hd:mX W.d):ak Tryz.prog (.fn 33 [.ptr 0 0] []) [] (qN g es W 0) (Cj g es (uc (kf es W))):=by
 refine ak.iq (rs:=[.tmp 2]) (m:=38) Tryz.func33 rfl rfl rfl rfl rfl ?_;rw[show(qN g es W 0).length=2 from rfl,CN]
 refine aC.g ?_;simp only[go_sem,lP];refine aC.cA (ι:={i:Nat // i<=es.length/\ky i (es.drop i) W.d=ky 0 es W.d}) 1000 (λi=>dV 39 [(0,.ptr 0 0),(2,.int .i64 0),(10,.ps 1 (c9 es)),(11,.int .i64 es.length),(12,.int .i64 i.1)])
  (λ_=>qN g es W 0) (λi=>es.length-i.1) ⟨0,aj _,rfl⟩ ?_ (λ_=>ae _) ?_
 ·rw[CN];simp only[go_sem,eh,cY,vw,cS,bI]
 ·rintro ⟨i,hi,aD⟩;rw[CN];by_cases bx:(i:Int)<es.length
  ·have aL:i<es.length:=by omega
   have hw:=W1' i (by omega)
   rw[ai aL,ky]at aD;have g1:=yn aL;have hc:=kp _ (ay aL);generalize es[i]=c at *
   have hS:=Yo8 c W.d hc hd;simp only[go_sem,bx,lP,g1];refine⟨by omega,?_⟩;refine ak.bm [] hS (bL _ _ _) ⟨bI _,bI _,trivial⟩ ?_;rw[eW];simp only[ite_self];refine aC.g ?_;generalize r9 c W.d=z at *
   obtain⟨z1,z2⟩:=z;simp only at aD ⊢;have hend:mI (Cj g es (uc (kf es W))) 2 (.int .i64 2) [some (.var [.ps 4 (syms g),.ps 1 (c9 es),.ps 5 (lits W.d),eR 1 1 (ints W.u),.int .i64 2,.int .i64 i,.int .i64 W.e]),cX (ints W.u)]\/¬(z2=0/\z1=true):=by
    by_cases hz:z2=0/\z1=true
    ·rw[if_pos hz]at aD;exact .inl (zG 0 { W with gone:=2,uP:=(i:Int) } ⟨by unfold kf;rw[<-aD],by unfold kf;rw[<-aD],.inl rfl⟩ trivial (gL _))
    ·exact .inr hz
   have wQ:¬(z2=0/\z1=true)->ky (i+1) (es.drop (i+1)) W.d=ky 0 es W.d:=λhz=>by rw[if_neg hz]at aD;exact aD
   clear aD;by_cases h2:z2=0
   ·subst h2;cases z1
    ·simp only[go_sem,hw];refine⟨⟨i+1,by omega,wQ (by simp)⟩,?_,by simp only;omega⟩;exact⟨rfl,eh _,⟨cS _,eh _,bI _⟩,cY _⟩
    ·simp only[go_sem,hw];refine aC.g ?_;simp only[go_sem];exact hend.resolve_right (by simp)
   ·simp only[go_sem,h2,hw];refine⟨⟨i+1,by omega,wQ (by simp[h2])⟩,?_,by simp only;omega⟩;exact⟨rfl,eh _,⟨cS _,eh _,bI _⟩,cY _⟩
  ·have dm:i=es.length:=by omega
   subst dm;rw[aJ,ky]at aD;simp only[go_sem,bx];refine aC.g ?_;simp only[go_sem];refine zG 0 W ⟨by unfold kf;rw[<-aD],by unfold kf;rw[<-aD],.inl rfl⟩ trivial (gL _)
def mz:Nat->List (List Li)->List Li->Option (Nat×Nat)
 |_,[],_=>none
 |k,c :: es,d=>if (lQ c d).2.2=0/\(lQ c d).2.1=true then some (k,(lQ c d).1.toNat) else mz (k+1) es d
def nt (es:List (List Li))(W:Wk):Int×Wk:=match mz 0 es W.d with
 |some x=>(1,kR (x.1:Int) { W with d:=W.d.eraseIdx x.2 })
 |none=>(0,W)
theorem Yu3 {c d:List Li}{k:Nat}(h:vD c d=some k):k<d.length:=by
 unfold vD at h;simpa using ck h
theorem Qb {c d:List Li} (h:(lQ c d).2.2=0/\(lQ c d).2.1=true):∃i:Nat,(lQ c d).1=(i:Int)/\i<d.length:=by
 unfold lQ at h ⊢;split at h
 ·cases h.2
 ·rename_i h0;rw[if_neg h0];cases hk:vD c d with
  |none=>rw[hk]at h;cases h.2
  |some k=>exact⟨k,rfl,Yu3 hk⟩
theorem Yrc (g:List Sy) (es:List (List Li)) (W:Wk) (kp:∀c∈es,mX c) (hl:es.length<1000000) (hd:mX W.d) (hu:W.u.length<1000000):ak Tryz.prog (.fn 32 [.ptr 0 0] []) [] (qN g es W 0) (Cj g es (uc (nt es W))):=by
 refine ak.iq (rs:=[.tmp 2]) (m:=48) Tryz.func32 rfl rfl rfl rfl rfl ?_;rw[show(qN g es W 0).length=2 from rfl,CN]
 refine aC.g ?_;simp only[go_sem,lP];refine aC.cA (ι:={i:Nat // i<=es.length/\mz i (es.drop i) W.d=mz 0 es W.d}) 1000 (λi=>dV 49 [(0,.ptr 0 0),(2,.int .i64 0),(11,.ps 1 (c9 es)),(12,.int .i64 es.length),(13,.int .i64 i.1)])
  (λ_=>qN g es W 0) (λi=>es.length-i.1) ⟨0,aj _,rfl⟩ ?_ (λ_=>ae _) ?_
 ·rw[CN];simp only[go_sem,eh,cY,vw,cS,bI]
 ·rintro ⟨i,hi,aD⟩;rw[CN];by_cases bx:(i:Int)<es.length
  ·have aL:i<es.length:=by omega
   have hw:=W1' i (by omega)
   rw[ai aL,mz]at aD;have g1:=yn aL;have hc:=kp _ (ay aL);generalize es[i]=c at *
   have hS:=Yrs c W.d hc hd;have gM:=λh=>Qb (c:=c) (d:=W.d) h;simp only[go_sem,bx,lP,g1];refine⟨by omega,?_⟩;refine ak.bm [] hS (bL _ _ _) ⟨bI _,bI _,trivial⟩ ?_;rw[eW];simp only[ite_self];refine aC.g ?_;generalize lQ c W.d=z at *
   obtain⟨z1,z2,z3⟩:=z;simp only at aD gM ⊢;have wQ:¬(z3=0/\z2=true)->mz (i+1) (es.drop (i+1)) W.d=mz 0 es W.d:=λhz=>by rw[if_neg hz]at aD;exact aD
   by_cases h2:z3=0
   ·subst h2;cases z2
    ·simp only[go_sem,hw];refine⟨⟨i+1,by omega,wQ (by simp)⟩,?_,by simp only;omega⟩;exact⟨rfl,eh _,⟨cS _,eh _,bI _⟩,cY _⟩
    ·obtain ⟨k,rfl,hk⟩:=gM ⟨rfl,rfl⟩;rw[if_pos ⟨rfl,rfl⟩,bh]at aD;have yC:IntKind.i64.wrap ((k:Int)+1)=((k+1:Nat):Int):=by rw[dt (by have:=hd.2;omega)];omega
     have dL:W.d≠[]:=by intro e;rw[e]at hk;simp at hk
     have xG:=hd.2;simp only[go_sem,hw,yC];refine ak.vN [] (KN W.d dL (by omega)) (bL _ _ _) ⟨bI _,trivial⟩ ?_;rw[eW];simp only[Cx,CA,CI,xv,CM,up,bT (bI _)];refine aC.g ?_;simp only[go_sem,bq,aY,yC];refine ak.CQ (f:=.fn 71 [] []) (args:=[.os 0 0 W.d.length 5,.int .i64 k,.int .i64 ((k+1:Nat):Int)]) (B:=.row (lits W.d) 0) 3 rfl (bI _) ⟨trivial,trivial⟩ ⟨bF,trivial,trivial,trivial⟩ ((NW W.d k hk (by omega)).mono ?_);rintro r σ' ⟨rfl,rfl⟩;refine⟨bF,_,rfl,bI _,?_⟩;have Rc:W.d.take k++W.d.drop (k+1)=W.d.eraseIdx k:=(i_ W.d k).symm;have jD:(W.d.eraseIdx k).length=W.d.length-1:=oE hk;rw[Rc];simp only[go_sem,cu,cw];refine aC.tell [3] 42 (.ps 5 (lits (W.d.eraseIdx k))) (by simp) ?_ ?_
     ·simp only[go_sem,bE,aV,dA,jD];rw[aO (by rw[dA,jD];exact ae _)];exact bL _ _ _
     simp only[go_sem,cu,cw];have hU:=UT g es { W with d:=W.d.eraseIdx k } i hu;refine aC.g ?_;simp only[go_sem];refine Kr (g:=g) (es:=es) (W:={ W with d:=W.d.eraseIdx k }) (f:=.fn 69 [] []) (args:=[.ptr 0 0,.int .i64 i]) 0 1 (by decide) rfl rfl ⟨trivial,trivial⟩ rfl ⟨cR,trivial,trivial⟩ rfl hU (λr m W' h=>by rw[h.1];trivial) ?_;rintro r m W' ⟨rfl,QN,hm⟩;have hend:∀S,ic (qN g es W' (if m=0 then 0 else 4)) S->mI (Cj g es (uc (nt es W))) 2 (.int .i64 1) S:=λS hS =>
      zG _ W' ⟨by unfold nt;rw[<-aD],by unfold nt;rw[<-aD];exact QN,by split;exact .inl rfl;exact .inr ⟨by unfold nt;rw[<-aD],.inr rfl⟩⟩ trivial hS
     rcases hm with rfl|rfl
     ·show aC _ _ _ _ _ ⟨_,[lW g es W' 1,cX (ints W'.u),none,some (.row (lits (W.d.eraseIdx k)) (max 0 (lits (W.d.eraseIdx k)).length))]⟩;refine aC.g ?_;simp only[go_sem];refine aC.g ?_;simp only[go_sem];exact hend _ (by simp[qN,ic])
     ·show aC _ _ _ _ _ ⟨_,[lW g es W' 5,none,none,some (.row (lits (W.d.eraseIdx k)) (max 0 (lits (W.d.eraseIdx k)).length)),none,cX (ints W'.u)]⟩;refine aC.g ?_;simp only[go_sem];refine aC.g ?_;simp only[go_sem];exact hend _ (by simp[qN,ic,List.replicate])
   ·simp only[go_sem,h2,hw];refine⟨⟨i+1,by omega,wQ (by simp[h2])⟩,?_,by simp only;omega⟩;exact⟨rfl,eh _,⟨cS _,eh _,bI _⟩,cY _⟩
  ·have dm:i=es.length:=by omega
   subst dm;rw[aJ,mz]at aD;simp only[go_sem,bx];refine aC.g ?_;simp only[go_sem];refine zG 0 W ⟨by unfold nt;rw[<-aD],by unfold nt;rw[<-aD],.inl rfl⟩ trivial (gL _)
def jd:List Int->Wk->Wk
 |[],W=>W
 |k :: l,W=>jd l (kR k W)
def kA (g:List Sy)(es:List (List Li))(W:Wk):Int×Wk :=
 if (cT g es W.d).2.2≠0 then (2,{ W with e:=(cT g es W.d).2.2 }) else if (cT g es W.d).2.1=[] then (0,W) else (1,jd (cT g es W.d).2.1 { W with d:=iI (cT g es W.d).1 })
theorem PD (k:Int)(W:Wk):(kR k W).u.length<=W.u.length+1:=by unfold kR;split<;>simp
def Ck (g:List Sy)(es:List (List Li))(W:Wk):Bool->av
 |true=>[lW g es W 1,cX (ints W.u),none]
 |false=>[lW g es W 2,none,cX (ints W.u)]
theorem Ykl (g:List Sy) (es:List (List Li)) (W:Wk) (fA:qk es W.d) (hn:(cT g es W.d).2.2=0->mX (cT g es W.d).1) (hu:W.u.length+(cT g es W.d).2.1.length<1000000) :
  ak Tryz.prog (.fn 31 [.ptr 0 0] []) [] (qN g es W 0) (Cj g es (uc (kA g es W))):=by
 refine ak.iq (rs:=[.tmp 2]) (m:=48) Tryz.func31 rfl rfl rfl rfl rfl ?_;rw[show(qN g es W 0).length=2 from rfl,CN]
 have hN:=Ymb g es W.d fA;obtain⟨Z,hZ⟩:∃Z,kA g es W=Z:=⟨_,rfl⟩;have AB:=hZ;unfold kA at AB;rw[hZ];generalize cT g es W.d=z at *
 obtain⟨z1,us,ze⟩:=z;simp only at AB hN hn hu;refine aC.g ?_;simp only[go_sem];refine aC.draw [] 2 2 mixed rfl rfl (by decide) ?_;simp only[go_sem,cM];refine jS hN (bL _ _ _) ⟨cS _,eh _,bI _,trivial⟩ ?_;simp only[go_sem];refine aC.g ?_;by_cases h0:ze=0
 case neg =>
  rw[if_pos h0]at AB;simp only[go_sem,h0];refine zG 0 { W with e:=ze } ⟨by rw[<-AB],by rw[<-AB],.inl rfl⟩ trivial (gL _)
 subst h0;rw[if_neg (by simp)]at AB;by_cases h1:us=[]
 ·subst h1;rw[if_pos rfl]at AB;simp only[go_sem,ja,aF];refine zG 0 W ⟨by rw[<-AB],by rw[<-AB],.inl rfl⟩ trivial (gL _)
 rw[if_neg h1]at AB;have dL:¬(us.length:Int)=0:=by
  intro e;exact h1 (bn (by omega))
 have hT:=S4 z1 (hn rfl);simp only[go_sem,ja,dL];refine ak.bm [] hT (bL _ _ _) ⟨bI _,trivial⟩ ?_;rw[eW];simp only[ite_self];refine aC.g ?_;simp only[go_sem,ja];have uI:us.length<1000000:=by omega
 refine aC.ep (ι:={q:Nat×Wk×Bool // q.1<=us.length/\(1,jd (us.drop q.1) q.2.1)=Z/\q.2.1.u.length<=W.u.length+q.1}) 1000 (λq=>dV 49 [(0,.ptr 0 0),(2,.int .i64 0),(39,.ps 1 (ints us)),(40,.int .i64 us.length),(41,.int .i64 q.1.1)])
  (λq=>Ck g es q.1.2.1 q.1.2.2) (λq=>us.length-q.1.1) ⟨(0,{ W with d:=iI z1 },true),aj _,AB,ae _⟩ [] ?_ (λq=>by show 2<=(Ck g es q.1.2.1 q.1.2.2).length;cases q.1.2.2<;>simp[Ck]) ?_
 ·refine eL rfl ?_;unfold Ck lW;simp only[go_sem,eh,cY,vw,cS,bI,bT (eh _),bT (cY _),bT (cS _),bT (bI _)]
 ·rintro ⟨⟨i,X,b⟩,hi,aD,hX⟩;simp only at hi aD hX;by_cases bx:(i:Int)<us.length
  ·have aL:i<us.length:=by omega
   have hw:=W1' i (by omega)
   rw[ai aL,jd]at aD;have g1:=vu aL;generalize us[i]=k at *
   have hU:=UT g es X k (by omega);have hUl:=PD k X;simp only[go_sem,bx,ja,g1];refine⟨by omega,?_⟩;have fN:(i+1<=us.length/\(1,jd (us.drop (i+1)) (kR k X))=Z/\(kR k X).u.length<=W.u.length+(i+1)):=⟨by omega,aD,by omega⟩;cases b
   ·refine Kr (g:=g) (es:=es) (W:=X) (f:=.fn 69 [] []) (args:=[.ptr 0 0,.int .i64 k]) 0 2 (by decide) rfl rfl ⟨trivial,trivial⟩ rfl ⟨cR,trivial,trivial⟩ rfl hU (λr m W' h=>by rw[h.1];trivial) ?_;rintro r m W' ⟨rfl,rfl,hm⟩;generalize kR k X=X' at *
    rcases hm with rfl|rfl
    ·show aC _ _ _ _ _ ⟨_,[lW g es X' 2,none,cX (ints X'.u)]⟩;refine aC.g ?_;simp only[go_sem,hw];refine⟨⟨(i+1,X',false),fN⟩,[],eL rfl ?_,by simp only;omega⟩;unfold Ck lW;simp only[go_sem,eh,cY,vw,cS,bI,bT (eh _),bT (cY _),bT (cS _),bT (bI _)]
    ·show aC _ _ _ _ _ ⟨_,[lW g es X' 4,none,none,none,cX (ints X'.u)]⟩;refine aC.g ?_;simp only[go_sem,hw];refine⟨⟨(i+1,X',false),fN⟩,[(2,4),(4,2)],eL rfl ?_,by simp only;omega⟩;unfold Ck lW;simp only[go_sem,eh,cY,vw,cS,bI,bT (eh _),bT (cY _),bT (cS _),bT (bI _)]
   ·refine Kr (g:=g) (es:=es) (W:=X) (f:=.fn 69 [] []) (args:=[.ptr 0 0,.int .i64 k]) 0 1 (by decide) rfl rfl ⟨trivial,trivial⟩ rfl ⟨cR,trivial,trivial⟩ rfl hU (λr m W' h=>by rw[h.1];trivial) ?_;rintro r m W' ⟨rfl,rfl,hm⟩;generalize kR k X=X' at *
    rcases hm with rfl|rfl
    ·show aC _ _ _ _ _ ⟨_,[lW g es X' 1,cX (ints X'.u),none]⟩;refine aC.g ?_;simp only[go_sem,hw];refine⟨⟨(i+1,X',true),fN⟩,[],eL rfl ?_,by simp only;omega⟩;unfold Ck lW;simp only[go_sem,eh,cY,vw,cS,bI,bT (eh _),bT (cY _),bT (cS _),bT (bI _)]
    ·show aC _ _ _ _ _ ⟨_,[lW g es X' 4,none,none,none,cX (ints X'.u)]⟩;refine aC.g ?_;simp only[go_sem,hw];refine⟨⟨(i+1,X',false),fN⟩,[(2,4),(4,2)],eL rfl ?_,by simp only;omega⟩;unfold Ck lW;simp only[go_sem,eh,cY,vw,cS,bI,bT (eh _),bT (cY _),bT (cS _),bT (bI _)]
  ·have dm:i=us.length:=by omega
   subst dm;rw[aJ,jd]at aD;simp only[go_sem,bx];refine aC.g ?_;simp only[go_sem];cases b
   ·exact zG 1 X ⟨by rw[<-aD],by rw[<-aD],.inr ⟨by rw[<-aD],.inl rfl⟩⟩ trivial (by simp[qN,Ck,ic,List.replicate])
   ·exact zG 0 X ⟨by rw[<-aD],by rw[<-aD],.inl rfl⟩ trivial (by simp[qN,Ck,ic,List.replicate])
end Go.Proofs
namespace Go.Proofs
open Go Go.dq
def er:List (Wk->Int×Wk)->Wk->Int×Wk
 |[],W=>(0,W)
 |F :: l,W=>if (F W).1=0 then er l W else F W
def dk (g:List Sy)(es:List (List Li)):List (Wk->Int×Wk):=[iY,kA g es,nt es,kf es]
def uC (g:List Sy)(es:List (List Li)):Nat->Wk->Wk
 |0,W=>W
 |n+1,W=>if (er (dk g es) W).1=1 then uC g es n (er (dk g es) W).2 else (er (dk g es) W).2
def yR (c:List Li):Wk:=⟨iI c,[],0, -1,0⟩
structure Si where
 d:List Li
 u:List Int
 gone:Int
 uP:Int
def Si.aH (s:Si):ah:=.agg [.ps 5 (lits s.d),.ps 1 (ints s.u),.int .i64 s.gone,.int .i64 s.uP]
def pk (W:Wk):Si×Int:=if W.e≠0 then (⟨[],[],0,0⟩,W.e) else if (og W.d).2≠0 then (⟨[],[],0,0⟩,(og W.d).2) else (⟨(og W.d).1,W.u,W.gone,W.uP⟩,0)
def jo (g:List Sy)(es:List (List Li))(c:List Li):Si×Int:=if cm g (c :: es)≠0 then (⟨[],[],0,0⟩,cm g (c :: es)) else pk (uC g es 70 (yR c))
def oe (a b:Prop)(z:Int×Wk)(W:Wk):Prop:=(z.1=0/\z.2=W)\/(a/\z.1=1)\/(b/\z.1=2)
theorem Yhe (W:Wk):oe False True (iY W) W:=by
 unfold iY oe;split
 ·exact .inr (.inr ⟨trivial,rfl⟩)
 ·exact .inl ⟨rfl,rfl⟩
theorem Yn5 (g:List Sy) (es:List (List Li)) (W:Wk):oe True True (kA g es W) W:=by
 unfold kA oe;split
 ·exact .inr (.inr ⟨trivial,rfl⟩)
 ·split
  ·exact .inl ⟨rfl,rfl⟩
  ·exact .inr (.inl ⟨trivial,rfl⟩)
theorem Yub (es:List (List Li))(W:Wk):oe True False (nt es W) W:=by
 unfold nt oe;split
 ·exact .inr (.inl ⟨trivial,rfl⟩)
 ·exact .inl ⟨rfl,rfl⟩
theorem Ymc (es:List (List Li))(W:Wk):oe False True (kf es W) W:=by
 unfold kf oe;split
 ·exact .inr (.inr ⟨trivial,rfl⟩)
 ·exact .inl ⟨rfl,rfl⟩
def uq (o:Option bS)(g:List Sy)(es:List (List Li))(W:Wk):av:=[o,lW g es W 3,some (.row [.fn 30 [.ptr 1 0] [],.fn 31 [.ptr 1 0] [],.fn 32 [.ptr 1 0] [],.fn 33 [.ptr 1 0] []] 0),cX (ints W.u)]
theorem L5 {o:Option bS} {g:List Sy} {es:List (List Li)} {W:Wk} {z:Int×Wk} {f:FuncId} {K:ah->av->Prop} (h:ak Tryz.prog (.fn f [.ptr 0 0] []) [] (qN g es W 0) (Cj g es (uc z)))
  (h0:K (.int .i64 z.1) (uq o g es z.2))
  (h1:z.1=1->K (.int .i64 z.1) [o,lW g es z.2 4,some (.row [.fn 30 [.ptr 1 0] [],.fn 31 [.ptr 1 0] [],.fn 32 [.ptr 1 0] [],.fn 33 [.ptr 1 0] []] 0),none,cX (ints z.2.u)])
  (h4:z.1=1->K (.int .i64 z.1) [o,lW g es z.2 7,some (.row [.fn 30 [.ptr 1 0] [],.fn 31 [.ptr 1 0] [],.fn 32 [.ptr 1 0] [],.fn 33 [.ptr 1 0] []] 0),none,none,none,none,cX (ints z.2.u)]) :
  ak Tryz.prog (.fn f [.ptr 1 0] []) [] (uq o g es W) K:=by
 refine Kr (g:=g) (es:=es) (W:=W) (f:=.fn f [.ptr 0 0] []) (args:=[]) 1 3 (by decide) rfl rfl ⟨⟨cR,trivial⟩,trivial⟩ rfl trivial rfl h (λr m W' h=>by rw[h.1];trivial) ?_;rintro r m W' ⟨rfl,rfl,rfl|⟨h5,rfl|rfl⟩⟩
 ·exact h0
 ·exact h1 h5
 ·exact h4 h5
theorem Yip (es:List (List Li)) (hl:es.length<1000000) {o:Option bS} {K:ah->av->Prop} (h1:es=[]->K .a8 [o]) (h2:es=[]->K (.os 2 0 0 1) [o,none,some (.row [] 0)]) (h3:es≠[]->K (.os 2 0 es.length 1) [o,none,some (.row (c9 es) 0)]) :
  ak Tryz.prog (.fn 27 [] []) [.ps 1 (c9 es)] [o] K:=by
 have xE:(es=[]\/es≠[]):=by cases es<;>simp
 rcases xE with rfl|dL
 ·refine ak.kI (Z:=[]) (f:=.fn 27 [] []) (args:=[.ps 1 []]) (λb=>b) (λb b' h=>by simp at h) (λb h=>by simp at h) (λb h=>by simp at h) ⟨trivial,trivial⟩ rfl ⟨trivial,trivial⟩ rfl trivial (cj.v V2) ?_;rintro r Z' (⟨rfl,rfl⟩|⟨rfl,rfl⟩)
  ·exact⟨ae _,trivial,trivial,h1 rfl⟩
  ·exact⟨aj _,by simp[go_sem],eX,h2 rfl⟩
 ·refine ak.vN [] (WY es dL (by omega)) (bL _ _ _) ⟨eh _,trivial⟩ ?_;rw[eW];simp only[Cx,CA,CI,xv,CM,up,bT (eh _)];exact h3 dL
theorem PV (es:List (List Li)) (c:List Li) (hl:es.length<1000000) {o:Option bS} {K:ah->av->Prop} :
  (es=[]->K (.ps 1 (c9 (c :: es))) [o,none]->ak Tryz.prog (.fn 26 [] []) [.a8,.int .i64 0,.os 1 0 1 1] [o,some (.row [.ps 5 (lits c)] 0)] K) /\
  (es=[]->K (.ps 1 (c9 (c :: es))) [o,none,none,none]->ak Tryz.prog (.fn 26 [] []) [.os 2 0 0 1,.int .i64 0,.os 3 0 1 1] [o,none,some (.row [] 0),some (.row [.ps 5 (lits c)] 0)] K) /\
  (es≠[]->K (.ps 1 (c9 (c :: es))) [o,none,none,none]->ak Tryz.prog (.fn 26 [] []) [.os 2 0 es.length 1,.int .i64 0,.os 3 0 1 1] [o,none,some (.row (c9 es) 0),some (.row [.ps 5 (lits c)] 0)] K):=by
 have ZX:∀b,b<3->b=0\/b=1\/b=2:=λb hb=>by omega
 have lc:=bI (n:=0) c;have le:=eh (n:=0) es;have lr:=eh (n:=0) (c :: es);refine⟨λh hk=>?_,λh hk=>?_,λh hk=>?_⟩
 ·subst h;refine ak.kI (Z:=[some (.row [.ps 5 (lits c)] 0)]) (f:=.fn 26 [] []) (args:=[.a8,.int .i64 0,.os 0 0 1 1]) (λb=>b+1) (λb b' h1 h2 e=>by omega) (λb h=>by simp at h ⊢;omega) (λb h=>?_) ⟨trivial,trivial⟩ rfl ⟨trivial,trivial,Nat.one_pos,trivial⟩ rfl ?_ (cj.v (Vp c)) ?_
  ·obtain rfl:b=0:=by simp at h;exact h
   exact⟨_,rfl,by simp[go_sem,bT lc]⟩
  ·simp[go_sem,bI]
  rintro r Z' ⟨rfl,rfl⟩;exact⟨ae _,by simp[go_sem],eh _,by rw[zJ (show ah.low 0 (.ps 1 (c9 [c])) from lr)];exact hk⟩
 ·subst h;refine ak.kI (Z:=[none,some (.row [] 0),some (.row [.ps 5 (lits c)] 0)]) (f:=.fn 26 [] []) (args:=[.os 1 0 0 1,.int .i64 0,.os 2 0 1 1]) (λb=>b+1) (λb b' h1 h2 e=>by omega) (λb h=>by simp at h ⊢;omega) (λb h=>?_) ⟨trivial,trivial⟩ rfl ⟨(show(1:Nat)<3 by decide),trivial,(show(2:Nat)<3 by decide),trivial⟩ rfl ?_ (cj.v (Vw c)) ?_
  ·rcases ZX b h with rfl|rfl|rfl<;>exact⟨_,rfl,by simp[go_sem,bT lc]⟩
  ·simp[go_sem,bI]
  rintro r Z' ⟨rfl,rfl⟩;exact⟨ae _,by simp[go_sem],eh _,by rw[zJ (show ah.low 0 (.ps 1 (c9 [c])) from lr)];exact hk⟩
 ·refine ak.kI (Z:=[none,some (.row (c9 es) 0),some (.row [.ps 5 (lits c)] 0)]) (f:=.fn 26 [] []) (args:=[.os 1 0 es.length 1,.int .i64 0,.os 2 0 1 1]) (λb=>b+1) (λb b' h1 h2 e=>by omega) (λb h=>by simp at h ⊢;omega) (λb h=>?_) ⟨trivial,trivial⟩ rfl ⟨(show(1:Nat)<3 by decide),trivial,(show(2:Nat)<3 by decide),trivial⟩ rfl ?_ (cj.v (VM es c h hl)) ?_
  ·rcases ZX b ‹_› with rfl|rfl|rfl<;>exact⟨_,rfl,by simp[go_sem,bT lc,bT le]⟩
  ·simp[go_sem,bI,eh]
  rintro r Z' ⟨rfl,rfl⟩;exact⟨ae _,by simp[go_sem],eh _,by rw[zJ (show ah.low 0 (.ps 1 (c9 (c :: es))) from lr)];exact hk⟩
end Go.Proofs
namespace Go.Proofs
open Go Go.dq
theorem Lg (b sz:Nat)(l:List ah):(eR b sz l).cells=[eR b sz l]:=by cases l<;>rfl
theorem ZI:((2:Nat):Int)=2:=rfl
theorem ZJ:((3:Nat):Int)=3:=rfl
theorem Mh:((4:Nat):Int)=4:=rfl
theorem ZG:Int.toNat 2=2:=rfl
theorem ZH:Int.toNat 3=3:=rfl
theorem Lf {Fs:List (Wk->Int×Wk)}{W:Wk}{k:Nat}(hk:k<Fs.length)(h:(Fs[k] W).1=0):er (Fs.drop k) W=er (Fs.drop (k+1)) W:=by
 rw[ai hk,er,if_pos h]
theorem K7 {Fs:List (Wk->Int×Wk)}{W:Wk}{k:Nat}(hk:k<Fs.length)(h:¬(Fs[k] W).1=0):er (Fs.drop k) W=Fs[k] W:=by
 rw[ai hk,er,if_neg h]
set_option maxHeartbeats 2000000 in
theorem Yz6 (g:List Sy) (es:List (List Li)) (c:List Li) (I:Nat->Wk->Prop) (kp:∀x∈c :: es,oY x) (hc:cm g (c :: es)=0->mX c) (hl:es.length<1000000) (Jg:cm g (c :: es)=0->∀x∈es,mX x) (Hg:cm g (c :: es)=0->I 70 (yR c))
  (hI:∀n W,I n W->(∃m,n=m+1)/\mX W.d/\qk es W.d/\((cT g es W.d).2.2=0->mX (cT g es W.d).1)/\W.u.length+(cT g es W.d).2.1.length<1000000)
  (ny:∀n W,I (n+1) W->(er (dk g es) W).1=1->I n (er (dk g es) W).2)
  (gW:∀n W,I n W->(er (dk g es) W).1≠1->(er (dk g es) W).2.e=0->mX (er (dk g es) W).2.d/\Tm.bw (cH (er (dk g es) W).2.d)<99999999) :
  az Tryz.prog 9 [.ps 4 (syms g),.ps 1 (c9 es),.ps 5 (lits c)] (.dw [(jo g es c).1.aH,.int .i64 (jo g es c).2]):=by
 refine az.begin (rs:=[.cell 6 28,.tmp 7]) (m:=96) 1000 Tryz.func9 rfl rfl rfl (by decide) ⟨⟨bI _,cY _,trivial,trivial,trivial⟩,trivial,trivial⟩ ?_;obtain⟨Z,hZ⟩:∃Z,jo g es c=Z:=⟨_,rfl⟩;rw[hZ];unfold jo at hZ;simp only[go_sem];refine Yip es hl (λhe=>?_) (λhe=>?_) (λhe=>?_)
 case' refine_1 =>
  refine aC.g ?_;simp only[go_sem];refine(PV es c hl).1 he ?_;refine aC.g ?_;simp only[go_sem,lP]
 case' refine_2 =>
  refine aC.g ?_;simp only[go_sem];refine(PV es c hl).2.1 he ?_;refine aC.g ?_;simp only[go_sem,lP]
 case' refine_3 =>
  refine aC.g ?_;simp only[go_sem];refine(PV es c hl).2.2 he ?_;refine aC.g ?_;simp only[go_sem,lP]
 all_goals
  obtain⟨L,hL⟩:∃L,c :: es=L:=⟨_,rfl⟩;have hlen:es.length+1=L.length:=by rw[<-hL];rfl
  have ko:L.length<2000000:=by omega
  rw[hL,hlen];rw[hL]at kp hZ Hg Jg hc;clear he;refine aC.cA (ι:={i:Nat // i<=L.length/\cm g (L.drop i)=cm g L}) 1000 (λi=>dV 99 [(0,.ps 4 (syms g)),(1,.ps 1 (c9 es)),(2,.ps 5 (lits c)),(6,.ptr 0 0),(7,.int .i64 0),(21,.ps 1 (c9 L)),(22,.int .i64 L.length),(23,.int .i64 i.1)])
   (λ_=>[some (.var [.a8,.a8,.int .i64 0,.int .i64 0])]) (λi=>L.length-i.1) ⟨0,by simp⟩ ?_ (λ_=>aj _) ?_
  ·simp only[go_sem,cS,eh,bI]
  ·rintro ⟨i,hi,aD⟩;by_cases bx:(i:Int)<L.length
   ·have aL:i<L.length:=by omega
    have hd:cm g (L.drop i)=if aW g L[i]≠0 then aW g L[i] else cm g (L.drop (i+1)):=by
     rw[ai aL];rfl
    simp only[go_sem,bx,lP,yn aL]
    (repeat((with_reducible refine And.intro ?_ ?_);·omega))
    refine ak.bm [] (HZ g L[i] (kp _ (ay aL))) (bL _ _ _) (by simp[go_sem,cS,bI]) ?_;simp only[bj,bA,bz,if_true];refine aC.g ?_;by_cases c0:aW g L[i]=0
    ·simp only[go_sem,c0];refine⟨⟨i+1,aL,by rw[<-aD,hd,if_neg (by simp[c0])]⟩,?_,by simp only;omega⟩;simp only[go_sem,cS,eh,bI];rw[dt (by omega)];rfl
    ·simp only[go_sem,c0];refine aC.g ?_;rw[hd,if_pos c0]at aD;rw[if_pos (by rw[<-aD];exact c0)]at hZ;subst hZ;simp only[go_sem,aD,Si.aH];exact⟨rfl,rfl⟩
   ·have dm:i=L.length:=by omega
    subst dm;rw[aJ,cm]at aD;rw[if_neg (by rw[<-aD];simp)]at hZ;have I8:=Jg aD.symm;have Hg:=Hg aD.symm;have hT:=S4 c (hc aD.symm);simp only[go_sem,bx];refine aC.g ?_;simp only[go_sem];refine ak.bm [] hT (bL _ _ _) ⟨bI _,trivial⟩ ?_;rw[eW];simp only[ite_self];refine aC.g ?_;simp only[go_sem];refine⟨rfl,rfl,rfl,rfl,?_⟩;refine aC.ep (ι:={q:Nat×Wk // I q.1 q.2/\pk (uC g es q.1 q.2)=Z}) 1000 (λ_=>dV 99 [(6,.ptr 0 0),(7,.int .i64 0),(11,.ptr 1 0),(12,.os 2 0 4 1)])
     (λq=>uq (some (.var [.a8,.a8,.int .i64 0,.int .i64 0])) g es q.1.2) (λq=>q.1.1) ⟨(70,yR c),Hg,hZ⟩ [] ?_ (λ_=>aj _) ?_
    ·refine eL rfl ?_;unfold uq lW yR;simp only[go_sem,eh,cY,vw,cS,bI,bT (eh _),bT (cY _),bT (cS _),bT (bI _),show ints []=[] from rfl,pU,pC]
    ·rintro ⟨⟨n,W⟩,zO,hF⟩;simp only at zO hF;obtain⟨⟨n,rfl⟩,k1,k2,k3,k4⟩:=hI n W zO;rw[uC]at hF;unfold uq;simp only[go_sem];refine aC.cA (ι:={k:Nat // k<=4/\er ((dk g es).drop k) W=er (dk g es) W}) 1000 (λk=>dV 99 [(6,.ptr 0 0),(7,.int .i64 0),(11,.ptr 1 0),(12,.os 2 0 4 1),(50,.os 2 0 4 1),(51,.int .i64 4),(52,.int .i64 k.1)])
      (λ_=>uq (some (.var [.a8,.a8,.int .i64 0,.int .i64 0])) g es W) (λk=>4-k.1) ⟨0,aj _,rfl⟩ ?_ (λ_=>aj _) ?_
     ·unfold uq lW;simp only[go_sem,eh,cY,vw,cS,bI];rfl
     rintro⟨k,hk,aD⟩;have eZ:k=0\/k=1\/k=2\/k=3\/k=4:=by omega
     rcases eZ with rfl|rfl|rfl|rfl|rfl
     ·have gE:=Yis g es W k1;have vH:=Yhe W;have lJ:(iY W).1=0->er ((dk g es).drop 1) W=er (dk g es) W:=λh=>by rw[<-aD];exact(Lf (Fs:=dk g es) (k:=0) (show 0<4 by decide) h).symm
      have sI:¬(iY W).1=0->er (dk g es) W=iY W:=λh=>by rw[<-aD];exact K7 (Fs:=dk g es) (k:=0) (show 0<4 by decide) h
      generalize iY W=z at *
      obtain⟨z1,z2⟩:=z;unfold oe at vH;simp only[false_and,true_and,false_or,or_false]at vH lJ sI;unfold uq;simp only[go_sem,bE,aV];refine⟨by omega,L5 (o:=(some (.var [.a8,.a8,.int .i64 0,.int .i64 0]))) (g:=g) (es:=es) (W:=W) (z:=(z1,z2)) gE ?_ (λh=>?_) (λh=>?_)⟩
      ·rcases vH with⟨rfl,rfl⟩|rfl
       ·unfold uq;refine aC.g ?_;simp only[go_sem];refine⟨⟨1,by omega,lJ rfl⟩,?_,by simp only;omega⟩;unfold lW;simp only[go_sem,eh,cY,vw,cS,bI,bT (eh _),bT (cY _),bT (cS _),bT (bI _)]
        all_goals rfl
       ·have hsc:=sI (by decide);have p9:=gW (n+1) W zO (by rw[hsc];simp);rw[hsc]at p9 hF;rw[if_neg (by simp)]at hF;simp only at p9 hF;unfold uq;refine aC.g ?_;simp only[go_sem];refine aC.g ?_;simp only[go_sem];refine aC.g ?_;unfold pk at hF;by_cases he:z2.e=0
        ·rw[if_neg (by simp[he])]at hF;have gW:=p9 he;have Ay:=LF z2.d gW.1 gW.2;unfold lW;simp only[go_sem,he];refine ak.bm [] Ay (bL _ _ _) ⟨bI _,trivial⟩ ?_;rw[eW];simp only[ite_self];refine aC.g ?_;by_cases hn:(og z2.d).2=0
         ·rw[if_neg (by simp[hn])]at hF;simp only[go_sem,hn];refine aC.draw [.no,.no,.no,.no,.no,.no,.no,.no,.no,.no,.no,.no,.no,.no,⟨none,[0],[]⟩] 4 4 mixed rfl rfl (by decide) ?_;simp only[go_sem,cM,Lg,Ac];refine aC.g ?_;simp only[go_sem,Ac];subst hF;refine⟨⟨nH _ _ _,?_,bL _ _ _⟩,rfl⟩;rw[nI rfl rfl];trivial
         ·rw[if_pos hn]at hF;subst hF;simp only[go_sem,hn,Si.aH];exact⟨rfl,rfl⟩
        ·rw[if_pos he]at hF;subst hF;unfold lW;simp only[go_sem,he];refine aC.g ?_;simp only[go_sem,he];refine aC.draw [.no,⟨none,[],[0]⟩,⟨none,[],[0]⟩,⟨none,[],[0]⟩,⟨none,[],[0]⟩,⟨none,[0],[]⟩] 4 4 mixed rfl rfl (by decide) ?_;simp only[go_sem,cM];refine aC.g ?_;simp only[go_sem,Si.aH];exact⟨rfl,rfl⟩
      ·simp only at h;subst h;simp at vH
      ·simp only at h;subst h;simp at vH
     ·have gE:=Ykl g es W k2 k3 k4;have vH:=Yn5 g es W;have lJ:(kA g es W).1=0->er ((dk g es).drop 2) W=er (dk g es) W:=λh=>by rw[<-aD];exact(Lf (Fs:=dk g es) (k:=1) (show 1<4 by decide) h).symm
      have sI:¬(kA g es W).1=0->er (dk g es) W=kA g es W:=λh=>by rw[<-aD];exact K7 (Fs:=dk g es) (k:=1) (show 1<4 by decide) h
      generalize kA g es W=z at *
      obtain⟨z1,z2⟩:=z;unfold oe at vH;simp only[false_and,true_and,false_or,or_false]at vH lJ sI;unfold uq;simp only[go_sem,bE,aV];refine⟨by omega,L5 (o:=(some (.var [.a8,.a8,.int .i64 0,.int .i64 0]))) (g:=g) (es:=es) (W:=W) (z:=(z1,z2)) gE ?_ (λh=>?_) (λh=>?_)⟩
      ·rcases vH with⟨rfl,rfl⟩|rfl|rfl
       ·unfold uq;refine aC.g ?_;simp only[go_sem];refine⟨⟨2,by omega,lJ rfl⟩,?_,by simp only;omega⟩;unfold lW;simp only[go_sem,eh,cY,vw,cS,bI,bT (eh _),bT (cY _),bT (cS _),bT (bI _)]
        all_goals rfl
       ·have hsc:=sI (by decide);have wM:=ny n W zO (by rw[hsc]);rw[hsc]at wM hF;rw[if_pos rfl]at hF;unfold uq;refine aC.g ?_;simp only[go_sem];refine⟨⟨(n,z2),wM,hF⟩,[],eL rfl ?_,by simp only;omega⟩;unfold lW;simp only[go_sem,eh,cY,vw,cS,bI,bT (eh _),bT (cY _),bT (cS _),bT (bI _)]
       ·have hsc:=sI (by decide);have p9:=gW (n+1) W zO (by rw[hsc];simp);rw[hsc]at p9 hF;rw[if_neg (by simp)]at hF;simp only at p9 hF;unfold uq;refine aC.g ?_;simp only[go_sem];refine aC.g ?_;simp only[go_sem];refine aC.g ?_;unfold pk at hF;by_cases he:z2.e=0
        ·rw[if_neg (by simp[he])]at hF;have gW:=p9 he;have Ay:=LF z2.d gW.1 gW.2;unfold lW;simp only[go_sem,he];refine ak.bm [] Ay (bL _ _ _) ⟨bI _,trivial⟩ ?_;rw[eW];simp only[ite_self];refine aC.g ?_;by_cases hn:(og z2.d).2=0
         ·rw[if_neg (by simp[hn])]at hF;simp only[go_sem,hn];refine aC.draw [.no,.no,.no,.no,.no,.no,.no,.no,.no,.no,.no,.no,.no,.no,⟨none,[0],[]⟩] 4 4 mixed rfl rfl (by decide) ?_;simp only[go_sem,cM,Lg,Ac];refine aC.g ?_;simp only[go_sem,Ac];subst hF;refine⟨⟨nH _ _ _,?_,bL _ _ _⟩,rfl⟩;rw[nI rfl rfl];trivial
         ·rw[if_pos hn]at hF;subst hF;simp only[go_sem,hn,Si.aH];exact⟨rfl,rfl⟩
        ·rw[if_pos he]at hF;subst hF;unfold lW;simp only[go_sem,he];refine aC.g ?_;simp only[go_sem,he];refine aC.draw [.no,⟨none,[],[0]⟩,⟨none,[],[0]⟩,⟨none,[],[0]⟩,⟨none,[],[0]⟩,⟨none,[0],[]⟩] 4 4 mixed rfl rfl (by decide) ?_;simp only[go_sem,cM];refine aC.g ?_;simp only[go_sem,Si.aH];exact⟨rfl,rfl⟩
      ·simp only at h;subst h;have hsc:=sI (by decide);have wM:=ny n W zO (by rw[hsc]);rw[hsc]at wM hF;rw[if_pos rfl]at hF;refine aC.g ?_;simp only[go_sem];refine⟨⟨(n,z2),wM,hF⟩,[(3,4),(4,3)],eL rfl ?_,by simp only;omega⟩;unfold lW;simp only[go_sem,eh,cY,vw,cS,bI,bT (eh _),bT (cY _),bT (cS _),bT (bI _)]
      ·simp only at h;subst h;have hsc:=sI (by decide);have wM:=ny n W zO (by rw[hsc]);rw[hsc]at wM hF;rw[if_pos rfl]at hF;refine aC.g ?_;simp only[go_sem];refine⟨⟨(n,z2),wM,hF⟩,[(3,7),(7,3)],eL rfl ?_,by simp only;omega⟩;unfold lW;simp only[go_sem,eh,cY,vw,cS,bI,bT (eh _),bT (cY _),bT (cS _),bT (bI _)]
     ·have gE:=Yrc g es W I8 hl k1 (by omega);have vH:=Yub es W;have lJ:(nt es W).1=0->er ((dk g es).drop 3) W=er (dk g es) W:=λh=>by rw[<-aD];exact(Lf (Fs:=dk g es) (k:=2) (show 2<4 by decide) h).symm
      have sI:¬(nt es W).1=0->er (dk g es) W=nt es W:=λh=>by rw[<-aD];exact K7 (Fs:=dk g es) (k:=2) (show 2<4 by decide) h
      generalize nt es W=z at *
      obtain⟨z1,z2⟩:=z;unfold oe at vH;simp only[false_and,true_and,false_or,or_false]at vH lJ sI;unfold uq;simp only[go_sem,bE,aV,ZI,ZJ,Mh,ZG,ZH];refine L5 (o:=(some (.var [.a8,.a8,.int .i64 0,.int .i64 0]))) (g:=g) (es:=es) (W:=W) (z:=(z1,z2)) gE ?_ (λh=>?_) (λh=>?_)
      ·rcases vH with⟨rfl,rfl⟩|rfl
       ·unfold uq;refine aC.g ?_;simp only[go_sem];refine⟨⟨3,by omega,lJ rfl⟩,?_,by simp only;omega⟩;unfold lW;simp only[go_sem,eh,cY,vw,cS,bI,bT (eh _),bT (cY _),bT (cS _),bT (bI _)]
        all_goals rfl
       ·have hsc:=sI (by decide);have wM:=ny n W zO (by rw[hsc]);rw[hsc]at wM hF;rw[if_pos rfl]at hF;unfold uq;refine aC.g ?_;simp only[go_sem];refine⟨⟨(n,z2),wM,hF⟩,[],eL rfl ?_,by simp only;omega⟩;unfold lW;simp only[go_sem,eh,cY,vw,cS,bI,bT (eh _),bT (cY _),bT (cS _),bT (bI _)]
      ·simp only at h;subst h;have hsc:=sI (by decide);have wM:=ny n W zO (by rw[hsc]);rw[hsc]at wM hF;rw[if_pos rfl]at hF;refine aC.g ?_;simp only[go_sem];refine⟨⟨(n,z2),wM,hF⟩,[(3,4),(4,3)],eL rfl ?_,by simp only;omega⟩;unfold lW;simp only[go_sem,eh,cY,vw,cS,bI,bT (eh _),bT (cY _),bT (cS _),bT (bI _)]
      ·simp only at h;subst h;have hsc:=sI (by decide);have wM:=ny n W zO (by rw[hsc]);rw[hsc]at wM hF;rw[if_pos rfl]at hF;refine aC.g ?_;simp only[go_sem];refine⟨⟨(n,z2),wM,hF⟩,[(3,7),(7,3)],eL rfl ?_,by simp only;omega⟩;unfold lW;simp only[go_sem,eh,cY,vw,cS,bI,bT (eh _),bT (cY _),bT (cS _),bT (bI _)]
     ·have gE:=Yng g es W I8 hl k1;have vH:=Ymc es W;have lJ:(kf es W).1=0->er ((dk g es).drop 4) W=er (dk g es) W:=λh=>by rw[<-aD];exact(Lf (Fs:=dk g es) (k:=3) (show 3<4 by decide) h).symm
      have sI:¬(kf es W).1=0->er (dk g es) W=kf es W:=λh=>by rw[<-aD];exact K7 (Fs:=dk g es) (k:=3) (show 3<4 by decide) h
      generalize kf es W=z at *
      obtain⟨z1,z2⟩:=z;unfold oe at vH;simp only[false_and,true_and,false_or,or_false]at vH lJ sI;unfold uq;simp only[go_sem,bE,aV,ZI,ZJ,Mh,ZG,ZH];refine L5 (o:=(some (.var [.a8,.a8,.int .i64 0,.int .i64 0]))) (g:=g) (es:=es) (W:=W) (z:=(z1,z2)) gE ?_ (λh=>?_) (λh=>?_)
      ·rcases vH with⟨rfl,rfl⟩|rfl
       ·unfold uq;refine aC.g ?_;simp only[go_sem];refine⟨⟨4,by omega,lJ rfl⟩,?_,by simp only;omega⟩;unfold lW;simp only[go_sem,eh,cY,vw,cS,bI,bT (eh _),bT (cY _),bT (cS _),bT (bI _)]
        all_goals rfl
       ·have hsc:=sI (by decide);have p9:=gW (n+1) W zO (by rw[hsc];simp);rw[hsc]at p9 hF;rw[if_neg (by simp)]at hF;simp only at p9 hF;unfold uq;refine aC.g ?_;simp only[go_sem];refine aC.g ?_;simp only[go_sem];refine aC.g ?_;unfold pk at hF;by_cases he:z2.e=0
        ·rw[if_neg (by simp[he])]at hF;have gW:=p9 he;have Ay:=LF z2.d gW.1 gW.2;unfold lW;simp only[go_sem,he];refine ak.bm [] Ay (bL _ _ _) ⟨bI _,trivial⟩ ?_;rw[eW];simp only[ite_self];refine aC.g ?_;by_cases hn:(og z2.d).2=0
         ·rw[if_neg (by simp[hn])]at hF;simp only[go_sem,hn];refine aC.draw [.no,.no,.no,.no,.no,.no,.no,.no,.no,.no,.no,.no,.no,.no,⟨none,[0],[]⟩] 4 4 mixed rfl rfl (by decide) ?_;simp only[go_sem,cM,Lg,Ac];refine aC.g ?_;simp only[go_sem,Ac];subst hF;refine⟨⟨nH _ _ _,?_,bL _ _ _⟩,rfl⟩;rw[nI rfl rfl];trivial
         ·rw[if_pos hn]at hF;subst hF;simp only[go_sem,hn,Si.aH];exact⟨rfl,rfl⟩
        ·rw[if_pos he]at hF;subst hF;unfold lW;simp only[go_sem,he];refine aC.g ?_;simp only[go_sem,he];refine aC.draw [.no,⟨none,[],[0]⟩,⟨none,[],[0]⟩,⟨none,[],[0]⟩,⟨none,[],[0]⟩,⟨none,[0],[]⟩] 4 4 mixed rfl rfl (by decide) ?_;simp only[go_sem,cM];refine aC.g ?_;simp only[go_sem,Si.aH];exact⟨rfl,rfl⟩
      ·simp only at h;subst h;simp at vH
      ·simp only at h;subst h;simp at vH
     ·have hsc:er (dk g es) W=(0,W):=aD.symm;have p9:=gW (n+1) W zO (by rw[hsc];simp);rw[hsc]at p9 hF;rw[if_neg (by simp)]at hF;simp only at p9 hF;unfold pk at hF;by_cases he:W.e=0
      ·rw[if_neg (by simp[he])]at hF;have gW:=p9 he;have Ay:=LF W.d gW.1 gW.2;unfold uq lW;simp only[go_sem,he,Mh];refine aC.g ?_;simp only[go_sem,he];refine aC.g ?_;simp only[go_sem,he];refine ak.bm [] Ay (bL _ _ _) ⟨bI _,trivial⟩ ?_;rw[eW];simp only[ite_self];refine aC.g ?_;by_cases hn:(og W.d).2=0
       ·rw[if_neg (by simp[hn])]at hF;simp only[go_sem,hn];refine aC.draw [.no,.no,.no,.no,.no,.no,.no,.no,.no,.no,.no,.no,.no,.no,⟨none,[0],[]⟩] 4 4 mixed rfl rfl (by decide) ?_;simp only[go_sem,cM,Lg,Ac];refine aC.g ?_;simp only[go_sem,Ac];subst hF;refine⟨⟨nH _ _ _,?_,bL _ _ _⟩,rfl⟩;rw[nI rfl rfl];trivial
       ·rw[if_pos hn]at hF;subst hF;simp only[go_sem,hn,Si.aH];exact⟨rfl,rfl⟩
      ·rw[if_pos he]at hF;subst hF;unfold uq lW;simp only[go_sem,he,Mh];refine aC.g ?_;simp only[go_sem,he];refine aC.g ?_;simp only[go_sem,he];refine aC.draw [.no,⟨none,[],[0]⟩,⟨none,[],[0]⟩,⟨none,[],[0]⟩,⟨none,[],[0]⟩,⟨none,[0],[]⟩] 4 4 mixed rfl rfl (by decide) ?_;simp only[go_sem,cM];refine aC.g ?_;simp only[go_sem,Si.aH];exact⟨rfl,rfl⟩
end Go.Proofs
namespace Go.Proofs
open Go Go.dq
theorem Zx9 {es:List (List Li)}{u:Un}(h:u∈db es):fb u=false:=by
 unfold db at h;have:=(List.mem_filter.1 h).2;simpa using this
theorem Yfc {g:List Sy} {us:List Un} {c:List Li} (h0:(e9 g us c).2.2.2=0):(e9 g us c).1.length=c.length:=by
 unfold e9 lM at h0 ⊢;rcases HO (TT g c) us (cL c 0) with⟨f1,_⟩|⟨k,hk,x,f1,f2,_⟩
 ·rw[f1]
 ·rw [f1]at h0 ⊢;simp only at h0 ⊢;split at h0
  ·split
   ·unfold ll;split<;>simp
   ·rename_i h1 h2;exact absurd h1 h2
  ·rename_i h1;split
   ·rename_i h2;exact absurd h2 h1
   ·exact absurd h0 (by assumption)
theorem XZ {g:List Sy} {us:List Un}:∀(n:Nat) (c:List Li) (u:List Int),(eJ (e9 g us) n c u).2.2=0->(eJ (e9 g us) n c u).1.length=c.length
 |0,_,_,h=>by rw[eJ]at h;exact absurd h (by decide)
 | n+1,c,u,h=>by
  rw[eJ]at h ⊢;split
  ·rename_i h1;rw[if_pos h1]at h;exact absurd h h1
  ·rename_i h1;rw[if_neg h1]at h;split
   ·rfl
   ·rename_i h2;rw[if_neg h2]at h;split
    ·rename_i h3;rw[if_pos h3]at h;exact absurd h (by simp)
    ·rename_i h3;rw[if_neg h3]at h;rw[XZ n _ _ h,Yfc (by simpa using h1)]
theorem Yf7 {g:List Sy}{es:List (List Li)}{c:List Li}(h:(cT g es c).2.2=0):(cT g es c).1.length=c.length:=by
 unfold cT ie at h ⊢;split
 ·rename_i h1;rw[if_pos h1]at h;exact absurd h h1
 ·rename_i h1;rw[if_neg h1]at h;exact XZ _ _ _ h
theorem N3 (g:List Sy)(es:List (List Li))(c:List Li):(cT g es c).2.1.length<=200:=by
 unfold cT ie;split
 ·exact aj _
 ·exact SY _ _ _ _ (aj _)
theorem V9 {g:List Sy}{c:List Li}{es:List (List Li)}(hc:aW g c=0):cm g (c :: es)=cm g es:=by
 rw[cm,if_neg (λk=>k hc)]
theorem PR {g:List Sy}{es:List (List Li)}{c d:List Li}(h:qk es c)(hw:cm g (c :: es)=0)(hd:iC g d):qk es d/\cm g (d :: es)=0:=by
 have h1:=DH hw c (by simp);refine⟨⟨h.1,λx hx=>?_⟩,by rw[V9 hd.1,<-V9 h1];exact hw⟩;rcases aU.1 hx with rfl|hx
 ·refine⟨λi hi=>?_,hd.2⟩;obtain⟨a1,a2⟩:=sQ hd (ay hi);have b1:=(my a1).2;have b2:=(my a2).2;exact⟨by omega,by omega⟩
 ·exact h.2 x (by simp[hx])
theorem Im {g:List Sy}{d:List Li}(hd:iC g d):mX d:=by
 obtain⟨_,h2,_⟩:=uy hd.1;refine⟨λl hl=>?_,by omega⟩;obtain⟨a1,a2⟩:=sQ hd hl;have b1:=my a1;have b2:=my a2;exact⟨⟨b1.1,by have:=b1.2;omega⟩,b2.1,by have:=b2.2;omega⟩
theorem YV {m:Nat}:∀ {c:List Li},(∀l∈c,l.l.size<=m/\l.r.size<=m)->Tm.bw (cH c)<=c.length*(2*m)
 |[],_=>by simp[cH,Tm.bw]
 |l :: c,h=>by
  obtain⟨a1,a2⟩:=h l (by simp);have ih:=YV (c:=c) λx hx=>h x (by simp[hx]);rw[show cH (l :: c)=l.l :: l.r :: cH c from rfl,Tm.bw,Tm.bw,aq,Nat.succ_mul]
  omega
theorem Yl9 {g:List Sy} {d:List Li} (hd:iC g d):Tm.bw (cH d)<99999999:=by
 obtain⟨_,h2,_⟩:=uy hd.1;have h:=YV (m:=400) (c:=d) λl hl=>by
  obtain⟨a1,a2⟩:=sQ hd hl;exact⟨(my a1).2,(my a2).2⟩
 have:d.length*(2*400)<=32*(2*400):=aZ _ h2;omega
theorem L_ {g:List Sy}{es:List (List Li)}{c:List Li}(h:qk es c)(hw:cm g (c :: es)=0):∀x∈es,iC g x:=λx hx=>⟨DH hw x (by simp[hx]),(h.2 x (by simp[hx])).2⟩
noncomputable def J_ (g:List Sy)(es:List (List Li))(W:Wk):Nat:=2*W.d.length + @ite _ (calm g (db es) W.d) (Classical.propDecidable _) 0 1
structure IW (g:List Sy)(es:List (List Li))(n:Nat)(W:Wk):Prop where
 rt:iC g W.d
 e:W.e=0
 gone:W.gone=0
 uP:W.uP = -1
 tidy:qY W.d
 nodup:W.u.Nodup
 rows:∀k∈W.u,0<=k/\k<es.length
 len:W.u.length+201*n<=201*70
 mu:J_ g es W<n
theorem Yue (g:List Sy)(es:List (List Li))(W:Wk):er (dk g es) W=if (iY W).1≠0 then iY W else if (kA g es W).1≠0 then kA g es W else if (nt es W).1≠0 then nt es W else if (kf es W).1≠0 then kf es W else (0,W):=by
 simp only[dk,er,ite_not,ne_eq]
theorem KU (g:List Sy) (es:List (List Li)) (W:Wk) :
  (kB W.d=true/\er (dk g es) W=(2,{ W with gone:=1 })) \/
  (kB W.d=false/\(cT g es W.d).2.2≠0/\er (dk g es) W=(2,{ W with e:=(cT g es W.d).2.2 })) \/
  (kB W.d=false/\(cT g es W.d).2.2=0/\(cT g es W.d).2.1≠[]/\er (dk g es) W=(1,jd (cT g es W.d).2.1 { W with d:=iI (cT g es W.d).1 })) \/
  (kB W.d=false/\(cT g es W.d).2.2=0/\(cT g es W.d).2.1=[]/\∃x,mz 0 es W.d=some x/\er (dk g es) W=(1,kR (x.1:Int) { W with d:=W.d.eraseIdx x.2 })) \/
  (kB W.d=false/\(cT g es W.d).2.2=0/\(cT g es W.d).2.1=[]/\mz 0 es W.d=none/\∃k,ky 0 es W.d=some k/\er (dk g es) W=(2,{ W with gone:=2,uP:=(k:Int) })) \/
  (kB W.d=false/\(cT g es W.d).2.2=0/\(cT g es W.d).2.1=[]/\mz 0 es W.d=none/\ky 0 es W.d=none/\er (dk g es) W=(0,W)):=by
 rw[Yue];cases h1:kB W.d
 ·have e1:iY W=(0,W):=by unfold iY;rw[h1];rfl
  rw[e1,if_neg (λk=>k rfl)];by_cases h2:(cT g es W.d).2.2=0
  ·by_cases h3:(cT g es W.d).2.1=[]
   ·have e2:kA g es W=(0,W):=by unfold kA;rw[if_neg (λk=>k h2),if_pos h3]
    rw[e2,if_neg (λk=>k rfl)];cases h4:mz 0 es W.d with
    |some x =>
     have e3:nt es W=(1,kR (x.1:Int) { W with d:=W.d.eraseIdx x.2 }):=by unfold nt;rw[h4]
     rw[e3,if_pos (by simp)];exact .inr (.inr (.inr (.inl ⟨rfl,h2,h3,x,rfl,rfl⟩)))
    | none =>
     have e3:nt es W=(0,W):=by unfold nt;rw[h4]
     rw[e3,if_neg (λk=>k rfl)];cases h5:ky 0 es W.d with
     |some k =>
      have e4:kf es W=(2,{ W with gone:=2,uP:=(k:Int) }):=by unfold kf;rw[h5]
      rw[e4,if_pos (by simp)];exact .inr (.inr (.inr (.inr (.inl ⟨rfl,h2,h3,rfl,k,rfl,rfl⟩))))
     |none =>
      have e4:kf es W=(0,W):=by unfold kf;rw[h5]
      rw[e4,if_neg (λk=>k rfl)];exact .inr (.inr (.inr (.inr (.inr ⟨rfl,h2,h3,rfl,rfl,rfl⟩))))
   ·have e2:kA g es W=(1,jd (cT g es W.d).2.1 { W with d:=iI (cT g es W.d).1 }):=by unfold kA;rw[if_neg (λk=>k h2),if_neg h3]
    rw[e2,if_pos (by simp)];exact .inr (.inr (.inl ⟨rfl,h2,h3,rfl⟩))
  ·have e2:kA g es W=(2,{ W with e:=(cT g es W.d).2.2 }):=by unfold kA;rw[if_pos h2]
   rw[e2,if_pos (by simp)];exact .inr (.inl ⟨rfl,h2,rfl⟩)
 ·have e1:iY W=(2,{ W with gone:=1 }):=by unfold iY;rw[h1];rfl
  rw[e1,if_pos (by simp)];exact .inl ⟨rfl,rfl⟩
theorem Yp:∀(es:List (List Li)) (i:Nat),∀u∈ln es i,(i:Int)<=u.off/\u.off<i+es.length
 |[],_,u,h=>by rw[ln]at h;cases h
 | c :: es,i,u,h=>by
  rw[ln]at h;rcases a_.1 h with h|h
  ·unfold vT at h;split at h
   ·split at h
    ·cases h
    ·simp only[aU,dU,or_false]at h;rcases h with rfl|rfl<;>simp only[aq]<;>omega
   ·cases h
  ·have:=Yp es (i+1) u h;simp only[aq];omega
theorem Zwf {es:List (List Li)}{u:Un}(h:u∈db es): 0<=u.off/\u.off<es.length:=by
 unfold db at h;have:=Yp es 0 u (List.mem_filter.1 h).1;omega
theorem Ygl {g:List Sy} {us:List Un} {c:List Li} (h0:(e9 g us c).2.2.2=0) (h1:¬(e9 g us c).2.2.1=false):∃u∈us,(e9 g us c).2.1=u.off:=by
 unfold e9 lM at h0 h1 ⊢;rcases HO (TT g c) us (cL c 0) with⟨f1,_⟩|⟨k,hk,x,f1,f2,_⟩
 ·rw[f1]at h1;exact absurd rfl h1
 ·rw[f1]at h0 h1 ⊢;simp only at h0 h1 ⊢;split at h0
  ·rename_i h2;rw[if_pos h2];exact⟨x.1,(N_ f2).1,rfl⟩
  ·rename_i h2;exact absurd h0 (by simpa using h2)
theorem Xe {g:List Sy} {us:List Un} {P:Int->Prop} (hP:∀u∈us,P u.off):∀(n:Nat) (c:List Li) (l:List Int),(∀k∈l,P k)->∀k∈(eJ (e9 g us) n c l).2.1,P k
 |0,c,l,_=>by rw[eJ];intro k hk;cases hk
 | n+1,c,l,h=>by
  rw[eJ];split
  ·intro k hk;cases hk
  ·rename_i h1;split
   ·exact h
   ·rename_i h2;split
    ·intro k hk;cases hk
    ·refine Xe hP n _ _ λk hk=>?_;rcases a_.1 hk with hk|hk
     ·exact h k hk
     ·obtain⟨u,hu,e⟩:=Ygl (by simpa using h1) h2;rw[aK.1 hk,e];exact hP u hu
theorem Yhs {g:List Sy}{es:List (List Li)}{c:List Li}:∀k∈(cT g es c).2.1,0<=k/\k<es.length:=by
 unfold cT ie;split
 ·intro k hk;cases hk
 ·exact Xe (λu hu=>Zwf hu) _ _ _ (λk hk=>by cases hk)
theorem S5 {k j:Int}{W:Wk}:j∈(kR k W).u↔j∈W.u\/j=k:=by
 unfold kR;split
 ·rename_i h;exact⟨.inl,λh2=>h2.elim id λe=>e ▸ h⟩
 ·simp
theorem WJ {k:Int} {W:Wk} (h:W.u.Nodup):(kR k W).u.Nodup:=by
 unfold kR;split
 ·exact h
 ·rename_i hn;simp only
  rw[gC];refine⟨h,by simp,λa ha b hb e=>?_⟩;rw[aK.1 hb]at e;exact hn (e ▸ ha)
theorem MX (k:Int)(W:Wk):(kR k W).d=W.d/\(kR k W).e=W.e/\(kR k W).gone=W.gone/\(kR k W).uP=W.uP:=by unfold kR;split<;>exact⟨rfl,rfl,rfl,rfl⟩
theorem XS {j:Int}:∀ {l:List Int} {W:Wk},j∈(jd l W).u↔j∈W.u\/j∈l
 |[],W=>by simp[jd]
 |k :: l,W=>by rw[jd,XS,S5,aU,or_assoc]
theorem VK:∀ {l:List Int} {W:Wk},W.u.Nodup->(jd l W).u.Nodup
 |[],W,h=>h
 |k :: l,W,h=>by rw[jd];exact VK (WJ h)
theorem XJ:∀(l:List Int) (W:Wk),(jd l W).u.length<=W.u.length+l.length
 |[],W=>by simp[jd]
 |k :: l,W=>by
  rw[jd];have:=XJ l (kR k W);have:=PD k W;simp only[aq];omega
theorem P_:∀(l:List Int) (W:Wk),(jd l W).d=W.d/\(jd l W).e=W.e/\(jd l W).gone=W.gone/\(jd l W).uP=W.uP
 |[],W=>⟨rfl,rfl,rfl,rfl⟩
 |k :: l,W=>by
  rw[jd];obtain⟨a1,a2,a3,a4⟩:=P_ l (kR k W);obtain⟨b1,b2,b3,b4⟩:=MX k W;exact⟨a1.trans b1,a2.trans b2,a3.trans b3,a4.trans b4⟩
theorem Yv:∀ {es:List (List Li)} {k:Nat} {d:List Li} {x:Nat×Nat},mz k es d=some x->∃(i:Nat) (h:i<es.length),x.1=k+i/\(lQ es[i] d).2.2=0/\(lQ es[i] d).2.1=true/\(lQ es[i] d).1=(x.2:Int)/\x.2<d.length
 |[],_,_,_,h=>by rw[mz]at h;cases h
 | c :: es,k,d,x,h=>by
  rw[mz]at h;split at h
  ·rename_i hc;obtain⟨i,e,hi⟩:=Qb hc;cases h;refine⟨0,by simp,rfl,hc.1,hc.2,?_,?_⟩
   ·simp only[d_];rw[e];rfl
   ·simp only;rw[e];exact hi
  ·obtain⟨i,hi,h1,h2⟩:=Yv h;exact⟨i+1,by simp;omega,by omega,by simpa using h2⟩
theorem L7 {g:List Sy}{es:List (List Li)}{W:Wk}(h:calm g (db es) W.d):J_ g es W=2*W.d.length:=by unfold J_;rw[if_pos h];rfl
theorem UY {g:List Sy}{es:List (List Li)}{W:Wk}(h:¬calm g (db es) W.d):J_ g es W=2*W.d.length+1:=by unfold J_;rw[if_neg h]
theorem PZ {g:List Sy} {es:List (List Li)} {c:List Li} (h:qk es c) (hw:cm g (c :: es)=0) {n:Nat} {W:Wk} (hI:IW g es (n+1) W) (h1:(er (dk g es) W).1=1):IW g es n (er (dk g es) W).2:=by
 obtain⟨fA,Dh⟩:=PR h hw hI.rt;have hu:∀u∈db es,fb u=false/\iP g u.l/\iP g u.r:=λu hu=>⟨Zx9 hu,Wi (g:=g) (λx hx=>(L_ h hw x hx).1) (λx hx=>(L_ h hw x hx).2) hu⟩;have JG:=hI.mu;have hlen:=hI.len;rcases KU g es W with⟨_,e⟩|⟨_,_,e⟩|⟨_,h2,h3,e⟩|⟨_,h2,h3,x,h4,e⟩|⟨_,_,_,_,k,_,e⟩|⟨_,_,_,_,_,e⟩
 ·rw[e]at h1;exact absurd h1 (by simp)
 ·rw[e]at h1;exact absurd h1 (by simp)
 ·rw [e];have zS:¬calm g (db es) W.d:=λk=>h3 ((OI Dh).1 k).2;have hn:=Yik fA h2;have vL:=(Lz fA h2).2.1;have wW:=Uw vL;have AK:=Zg (S6 _) vL wW hu hn;have hl:=Yf7 h2;have htl:=YE (cT g es W.d).1;have qU:=N3 g es W.d;have uI:=XJ (cT g es W.d).2.1 { W with d:=iI (cT g es W.d).1 };obtain⟨d1,d2,d3,d4⟩:=P_ (cT g es W.d).2.1 { W with d:=iI (cT g es W.d).1 };have qA:=VK (l:=(cT g es W.d).2.1) (W:={ W with d:=iI (cT g es W.d).1 }) hI.nodup;have j0:=λj=>XS (j:=j) (l:=(cT g es W.d).2.1) (W:={ W with d:=iI (cT g es W.d).1 });rw[UY zS]at JG;simp only at d1 d2 d3 d4 uI ⊢;generalize jd (cT g es W.d).2.1 { W with d:=iI (cT g es W.d).1 }=X at *
  refine⟨by rw[d1];exact wW,by rw[d2];exact hI.e,by rw[d3];exact hI.gone,by rw[d4];exact hI.uP,by rw[d1];exact W3 _,qA,λk hk=>?_,by omega,?_⟩
  ·rcases(j0 k).1 hk with hk|hk
   ·exact hI.rows k hk
   ·exact Yhs k hk
  ·rw[L7 (by rw[d1];exact AK),d1];omega
 ·rw [e];have zS:calm g (db es) W.d:=(OI Dh).2 ⟨h2,h3⟩;obtain⟨i,hi,q1,q2,q3,q4,q5⟩:=Yv h4;have wW:=Zq x.2 hI.rt;have AK:=Zg (Yx W.d x.2) hI.rt wW hu zS;have hl:(W.d.eraseIdx x.2).length=W.d.length-1:=oE q5;obtain⟨d1,d2,d3,d4⟩:=MX (x.1:Int) { W with d:=W.d.eraseIdx x.2 };have uI:=PD (x.1:Int) { W with d:=W.d.eraseIdx x.2 };have qA:=WJ (k:=(x.1:Int)) (W:={ W with d:=W.d.eraseIdx x.2 }) hI.nodup;have j0:=λj=>S5 (k:=(x.1:Int)) (j:=j) (W:={ W with d:=W.d.eraseIdx x.2 });rw[L7 zS]at JG;simp only at d1 d2 d3 d4 uI ⊢;generalize kR (x.1:Int) { W with d:=W.d.eraseIdx x.2 }=X at *
  refine⟨by rw[d1];exact wW,by rw[d2];exact hI.e,by rw[d3];exact hI.gone,by rw[d4];exact hI.uP,by rw[d1];exact WO _ hI.tidy,qA,λk hk=>?_,by omega,?_⟩
  ·rcases(j0 k).1 hk with hk|rfl
   ·exact hI.rows k hk
   ·omega
  ·rw[L7 (by rw[d1];exact AK),d1];omega
 ·rw[e]at h1;exact absurd h1 (by simp)
 ·rw[e]at h1;exact absurd h1 (by simp)
theorem EF {g:List Sy}{es:List (List Li)}{c:List Li}(h:qk es c)(hw:cm g (c :: es)=0):IW g es 70 (yR c):=by
 have vL:iC g c:=⟨DH hw c (by simp),(h.2 c (by simp)).2⟩;have wW:=Uw vL;refine⟨wW,rfl,rfl,rfl,W3 c,mc,λk hk=>(by cases hk),by simp[yR],?_⟩;have hl:=(uy wW.1).2.1;have hd:(yR c).d=iI c:=rfl;by_cases hc:calm g (db es) (yR c).d
 ·rw[L7 hc,hd];omega
 ·rw[UY hc,hd];omega
theorem Yzk {g:List Sy}{es:List (List Li)}{W:Wk}(h:(er (dk g es) W).1≠1):(er (dk g es) W).2.d=W.d:=by
 rcases KU g es W with⟨_,e⟩|⟨_,_,e⟩|⟨_,h2,h3,e⟩|⟨_,h2,h3,x,h4,e⟩|⟨_,_,_,_,k,_,e⟩|⟨_,_,_,_,_,e⟩
 ·rw[e]
 ·rw[e]
 ·rw[e]at h;exact absurd rfl h
 ·rw[e]at h;exact absurd rfl h
 ·rw[e]
 ·rw[e]
theorem Qc (g:List Sy) (es:List (List Li)) (c:List Li) (h:qk es c) :
  az Tryz.prog 9 [.ps 4 (syms g),.ps 1 (c9 es),.ps 5 (lits c)] (.dw [(jo g es c).1.aH,.int .i64 (jo g es c).2]):=by
 have hl:=h.1;have vL:=λhw:cm g (c :: es)=0=>(⟨DH hw c (by simp),(h.2 c (by simp)).2⟩:iC g c);refine Yz6 g es c (λn W=>cm g (c :: es)=0/\IW g es n W) (λx hx=>(h.2 x hx).1) (λhw=>Im (vL hw)) (by omega) (λhw x hx=>Im (L_ h hw x hx)) (λhw=>⟨hw,EF h hw⟩) ?_ ?_ ?_
 ·rintro n W ⟨hw,hI⟩;obtain⟨fA,Dh⟩:=PR h hw hI.rt;have JG:=hI.mu;have hlen:=hI.len;have qU:=N3 g es W.d;exact⟨⟨n-1,by omega⟩,Im hI.rt,fA,λh2=>Im (Lz fA h2).2.1,by omega⟩
 ·rintro n W ⟨hw,hI⟩ h1;exact⟨hw,PZ h hw hI h1⟩
 ·rintro n W ⟨hw,hI⟩ h1 _;rw[Yzk h1];exact⟨Im hI.rt,Yl9 hI.rt⟩
theorem S_ {g:List Sy} {es:List (List Li)} {c:List Li} (h:qk es c) (hw:cm g (c :: es)=0):∀(n:Nat) (W:Wk),IW g es n W->∃(m:Nat) (X:Wk),IW g es m X/\(er (dk g es) X).1≠1/\uC g es n W=(er (dk g es) X).2
 |0,W,hI=>absurd hI.mu (by omega)
 |n+1,W,hI=>by
  rw[uC];split
  ·rename_i h1;exact S_ h hw n _ (PZ h hw hI h1)
  ·rename_i h1;exact⟨n+1,W,hI,h1,rfl⟩
theorem U1 {g:List Sy}{d:List Li}(hd:iC g d):(d.any sK)=false:=by
 rw[<-dB,cP];rintro⟨l,hl,ho⟩;obtain⟨a1,a2⟩:=sQ hd hl;unfold sK at ho;simp[(n_ a1.1).1,(n_ a2.1).1]at ho
theorem Ov {g:List Sy}{c d:List Li}(hc:iC g c)(hd:iC g d):kn c d=0:=by
 have h1:=(uy hc.1).2.1;have h2:=(uy hd.1).2.1;unfold kn;rw[if_neg (by omega),U1 hc,U1 hd];rfl
theorem Yga {g:List Sy}{d:List Li}(hd:iC g d):jz (cH d)=false:=by
 rw[<-dB];unfold jz;rw[cP];rintro⟨t,ht,ho⟩;unfold cH at ht;rw[mS]at ht;obtain⟨l,hl,ht⟩:=ht;obtain⟨a1,a2⟩:=sQ hd hl;simp only[aU,dU,or_false]at ht;rcases ht with rfl|rfl
 ·simp[(n_ a1.1).1]at ho
 ·simp[(n_ a2.1).1]at ho
theorem YJ {g:List Sy}{d:List Li}(hd:iC g d):og d=(px d,0):=by unfold og;rw[Yga hd];rfl
theorem Yo5 {g:List Sy}{c d:List Li}(hc:iC g c)(hd:iC g d):r9 c d=(pM c d,0):=by unfold r9;rw[if_neg (by simp[Ov hc hd])]
theorem Ycw {g:List Sy} {es:List (List Li)} {c:List Li} (h:qk es c) :
  (cm g (c :: es)≠0/\jo g es c=(⟨[],[],0,0⟩,cm g (c :: es))) \/
  (cm g (c :: es)=0/\∃(n:Nat) (X:Wk),IW g es n X /\
   ((kB X.d=true/\jo g es c=(⟨px X.d,X.u,1, -1⟩,0)) \/
    (kB X.d=false/\(cT g es X.d).2.2≠0/\jo g es c=(⟨[],[],0,0⟩,(cT g es X.d).2.2)) \/
    (kB X.d=false/\(cT g es X.d).2.2=0/\(cT g es X.d).2.1=[]/\mz 0 es X.d=none/\∃k,ky 0 es X.d=some k/\jo g es c=(⟨px X.d,X.u,2,(k:Int)⟩,0)) \/
    (kB X.d=false/\(cT g es X.d).2.2=0/\(cT g es X.d).2.1=[]/\mz 0 es X.d=none/\ky 0 es X.d=none/\jo g es c=(⟨px X.d,X.u,0, -1⟩,0)))):=by
 by_cases hw:cm g (c :: es)=0
 case neg=>exact .inl ⟨hw,by unfold jo;rw[if_pos hw]⟩
 refine .inr ⟨hw,?_⟩;obtain⟨n,X,hI,h1,e⟩:=S_ h hw 70 (yR c) (EF h hw);have hF:jo g es c=pk (er (dk g es) X).2:=by unfold jo;rw[if_neg (by simp[hw]),e]
 have hN:=YJ hI.rt;refine⟨n,X,hI,?_⟩;rw[hF];rcases KU g es X with⟨q1,e⟩|⟨q1,q2,e⟩|⟨_,h2,h3,e⟩|⟨_,h2,h3,x,h4,e⟩|⟨q1,q2,q3,q4,k,q5,e⟩|⟨q1,q2,q3,q4,q5,e⟩
 ·refine .inl ⟨q1,?_⟩;rw[e];unfold pk;simp only[hI.e,hN,hI.uP];rfl
 ·refine .inr (.inl ⟨q1,q2,?_⟩);rw[e];unfold pk;simp only
  rw[if_pos q2]
 ·rw[e]at h1;exact absurd rfl h1
 ·rw[e]at h1;exact absurd rfl h1
 ·refine .inr (.inr (.inl ⟨q1,q2,q3,q4,k,q5,?_⟩));rw[e];unfold pk;simp only[hI.e,hN];rfl
 ·refine .inr (.inr (.inr ⟨q1,q2,q3,q4,q5,?_⟩));rw[e];unfold pk;simp only[hI.e,hN,hI.uP,hI.gone];rfl
section
variable {r:Int->Int}{p:Int->Prop}
end
theorem Zu:∀(n:Nat) (l:List Int),l.Nodup->(∀v∈l,0<=v/\v<n)->l.length<=n
 |0,l,_,h=>by
  cases l with
  |nil=>exact ae _
  |cons a l=>have:=h a (by simp);omega
 | n+1,l,hn,h=>by
  have h1:=Zu n (l.erase (n:Int)) (hn.erase _) (λv hv=>by
   rw[hn.mem_erase_iff]at hv;have:=h v hv.2;have:=hv.1;omega)
  have h2:l.length<=(l.erase (n:Int)).length+1:=by
   rw[List.length_erase];split<;>omega
  omega
theorem Ykp (S:List Int)(v:Int):∃l,mn S v=S++l:=by
 unfold mn;split
 ·exact⟨[],by simp⟩
 ·exact⟨[v],rfl⟩
theorem Y1 (S:List Int)(v w:Int):w∈mn S v↔w∈S\/w=v:=by
 unfold mn;split
 ·rename_i h;exact⟨.inl,λh2=>h2.elim id λe=>e ▸ h⟩
 ·simp
theorem Ydn {S:List Int}(v:Int)(h:S.Nodup):(mn S v).Nodup:=by
 unfold mn;split
 ·exact h
 ·rename_i hn;rw[gC];refine⟨h,by simp,λa ha b hb e=>?_⟩;rw[aK.1 hb]at e;exact hn (e ▸ ha)
theorem Yqz {S l:List Int}{v:Int}(h:v∈S):(S++l).idxOf v=S.idxOf v:=by rw[List.idxOf_append,if_pos h]
mutual
theorem Ysu:∀(t:Tm) (S:List Int),∃l,(t.num S).2=S++l
 |.mk h ts,S=>by
  rw[Tm.num];split
  ·exact Ykp S _
  ·exact O4 ts S
theorem O4:∀(ts:List Tm) (S:List Int),∃l,(Tm.gX ts S).2=S++l
 |[],S=>⟨[],by simp[Tm.gX]⟩
 |t :: ts,S=>by
  rw[Tm.gX];obtain⟨l,hl⟩:=Ysu t S;obtain⟨m,hm⟩:=O4 ts (t.num S).2;exact⟨l++m,by simp only;rw[hm,hl,cg]⟩
end
mutual
theorem Ygo:∀(t:Tm) (S:List Int),S.Nodup->(t.num S).2.Nodup
 |.mk h ts,S,hn=>by
  rw[Tm.num];split
  ·exact Ydn _ hn
  ·exact Oa ts S hn
theorem Oa:∀(ts:List Tm) (S:List Int),S.Nodup->(Tm.gX ts S).2.Nodup
 |[],S,hn=>by rw[Tm.gX];exact hn
 |t :: ts,S,hn=>by rw[Tm.gX];exact Oa ts _ (Ygo t S hn)
end
mutual
theorem Ytu {P:Int->Prop}:∀(t:Tm) (S:List Int),(∀v∈S,P v)->t.iS P->∀v∈(t.num S).2,P v
 | .mk h ts,S,hS,ht=>by
  rw[Tm.iS]at ht;rw[Tm.num];split
  ·rename_i dP;intro v hv;rcases(Y1 S _ v).1 hv with hv|rfl
   ·exact hS v hv
   ·exact ht.1 dP
  ·exact Pd ts S hS ht.2
theorem Pd {P:Int->Prop}:∀(ts:List Tm) (S:List Int),(∀v∈S,P v)->Tm.ji P ts->∀v∈(Tm.gX ts S).2,P v
 |[],S,hS,_=>by rw[Tm.gX];exact hS
 |t :: ts,S,hS,ht=>by rw[Tm.ji]at ht;rw[Tm.gX];exact Pd ts _ (Ytu t S hS ht.1) ht.2
end
mutual
theorem Yvs:∀(t:Tm) (S:List Int) (T:List Int),t.good=true->(∃l,T=(t.num S).2++l)->(t.num S).1=t.rn (λv=>(T.idxOf v:Int))/\t.iS (· ∈ T)
 | .mk h ts,S,T,hg,⟨l,hT⟩=>by
  by_cases dP:h<0
  ·rw[Tm.num,if_pos dP]at hT ⊢;have hm:(-1-h)∈mn S (-1-h):=(Y1 S _ _).2 (.inr rfl);have ha:=N6 hg dP;simp only[Tm.args]at ha;subst ha;refine⟨?_,?_⟩
   ·rw[MY (t:=.mk h []) dP];show Tm.mk _ []=Tm.mk _ [];rw[show(Tm.mk h []).head=h from rfl,hT,Yqz hm]
   ·rw[Tm.iS];exact⟨λ_=>by rw[hT];exact gb _ hm,trivial⟩
  ·rw[Tm.num,if_neg dP]at hT ⊢;obtain⟨a1,a2⟩:=PS ts S T (zD hg) ⟨l,hT⟩;refine⟨?_,?_⟩
   ·rw[M7 (t:=.mk h ts) dP];show Tm.mk _ _=Tm.mk _ _;rw[a1];rfl
   ·rw[Tm.iS];exact⟨λk=>absurd k dP,a2⟩
theorem PS:∀(ts:List Tm) (S:List Int) (T:List Int),(∀t∈ts,t.good=true)->(∃l,T=(Tm.gX ts S).2++l)->(Tm.gX ts S).1=ts.map (Tm.rn λv=>(T.idxOf v:Int))/\Tm.ji (· ∈ T) ts
 |[],S,T,_,_=>⟨by rw[Tm.gX];rfl,trivial⟩
 |t :: ts,S,T,hg,⟨l,hT⟩=>by
  rw[Tm.gX]at hT ⊢;simp only at hT ⊢;obtain⟨m,hm⟩:=O4 ts (t.num S).2;obtain⟨a1,a2⟩:=Yvs t S T (hg t (by simp)) ⟨m++l,by rw[hT,hm,cg]⟩;obtain⟨b1,b2⟩:=PS ts (t.num S).2 T (λx hx=>hg x (by simp[hx])) ⟨l,hT⟩;exact⟨by rw[a1,b1];rfl,by rw[Tm.ji];exact⟨a2,b2⟩⟩
end
def oi (c:List Li):List Int:=(Tm.gX (cH c) []).2
def zx (c:List Li):Int->Int:=λv=>((oi c).idxOf v:Int)
theorem TA (r:Int->Int):∀c:List Li,zZ c ((cH c).map (Tm.rn r))=Dr r c
 |[]=>rfl
 |l :: c=>by
  rw[show cH (l :: c)=l.l :: l.r :: cH c from rfl,aI,aI,zZ,TA r c];rfl
mutual
theorem Ycy:∀t:Tm,t.good=true->t.iS λv=>0<=v/\v<256
 |.mk h ts,hg=>by
  rw[Tm.iS];have:=(zE hg).1;simp only[Tm.head]at this;exact⟨λhn=>by omega,ND ts (zD hg)⟩
theorem ND:∀ts:List Tm,(∀t∈ts,t.good=true)->Tm.ji (λv=>0<=v/\v<256) ts
 |[],_=>trivial
 |t :: ts,h=>⟨Ycy t (h t (by simp)),ND ts λx hx=>h x (by simp[hx])⟩
end
theorem Wc {g:List Sy}{d:List Li}(hd:iC g d):∀t∈cH d,t.good=true:=λt ht=>by
 unfold cH at ht;rw[mS]at ht;obtain⟨l,hl,ht⟩:=ht;obtain⟨a1,a2⟩:=sQ hd hl;simp only[aU,dU,or_false]at ht;rcases ht with rfl|rfl
 ·exact(qZ (n_ a1.1).1).2.2
 ·exact(qZ (n_ a2.1).1).2.2
theorem Ycx {p:Int->Prop} {d:List Li} (h:Tm.ji p (cH d)):CO p d:=λl hl=>by
 rw[Oh]at h;have hm:∀t∈[l.l,l.r],t∈cH d:=λt ht=>by
  unfold cH;rw[mS];exact⟨l,hl,ht⟩
 exact⟨h _ (hm _ (by simp)),h _ (hm _ (by simp))⟩
theorem UL {g:List Sy} {d:List Li} (hd:iC g d):sm (zx d) (· ∈ oi d)/\CO (· ∈ oi d) d/\px d=Dr (zx d) d:=by
 have hg:=Wc hd;obtain⟨h1,h2⟩:=PS (cH d) [] (oi d) hg ⟨[],by simp[oi]⟩;have qA:(oi d).Nodup:=Oa (cH d) [] mc;have hv:∀v∈oi d,0<=v/\v<256:=Pd (P:=λv=>0<=v/\v<256) (cH d) [] (λv hv=>by cases hv) (ND _ hg);have hlen:=Zu 256 _ qA (by simpa using hv);refine⟨⟨λv w hv hw e=>?_,λv hv=>?_,λv h=>(hv v h).1⟩,Ycx h2,?_⟩
 ·unfold zx at e;have e2:(oi d).idxOf v=(oi d).idxOf w:=by omega
  have l1:=jQ hv;have l2:=jQ hw;have g1:=List.getElem_idxOf l1;have g2:=List.getElem_idxOf l2;rw[<-g1,<-g2];simp only[e2]
 ·have:=jQ hv;unfold zx;omega
 ·unfold px;rw[h1,TA];rfl
section
variable {r:Int->Int}{p:Int->Prop}
end
end Go.Proofs
namespace Go.Proofs
open Go Go.dq
theorem Yv1 {c:List Li} (h:∀l∈c,l.l.fit/\l.r.fit):Tm.fits (cH c):=by
 induction c with
 |nil=>trivial
 |cons l c ih =>
  obtain⟨a,b⟩:=h l (by simp);exact⟨a,b,ih λx hx=>h x (by simp[hx])⟩
theorem Ypj {c:List Li} (h:∀l∈c,l.l.size<=400/\l.r.size<=400):Tm.bw (cH c)<=800*c.length:=by
 induction c with
 |nil=>exact ae _
 |cons l c ih =>
  obtain⟨a,b⟩:=h l (by simp);have:=ih λx hx=>h x (by simp[hx]);have e:cH (l :: c)=l.l :: l.r :: cH c:=rfl;rw[e];simp only[Tm.bw,aq];omega
theorem EN {g:List Sy} {c:List Li} (h:iC g c):Tm.fits (cH c)/\Tm.bw (cH c)<=25600/\c.length<=32:=by
 have hl:=(uy h.1).2.1;have:=Ypj (c:=c) λl hl=>by
  obtain⟨a1,a2⟩:=sQ h hl;exact⟨(my a1).2,(my a2).2⟩
 exact⟨Yv1 h.2,by omega,hl⟩
end Go.Proofs
namespace Go.Proofs
open Go Go.dq
def J3 (f:Int->Tm)(a l:Li):Prop:=(a.l.ap f=l.l/\a.r.ap f=l.r)\/(a.l.ap f=l.r/\a.r.ap f=l.l)
def nY (m:List Bd)(f:Int->Tm):Prop:=∀b∈m,f b.v=b.t
theorem U9:∀(S:List (Tm×Tm)) (m m':List Bd),iF S m=some m'->(m.map Bd.v).Nodup->(m'.map Bd.v).Nodup:=by
 intro S m
 induction S,m using iF.induct with
 |case1 m=>intro m' h hn;rw[iF]at h;cases h;exact hn
 |case2 x r m hv c hf he ih =>
  intro m' h hn;rw[iF,if_pos hv,hf]at h;simp only[if_pos he]at h;exact ih m' h hn
 |case3 x r m hv c hf he =>
  intro m' h;rw[iF,if_pos hv,hf]at h;simp only[if_neg he]at h;cases h
 |case4 x r m hv hf ih =>
  intro m' h hn;rw[iF,if_pos hv,hf]at h;simp only at h;refine ih m' h ?_;rw[cf,gC];refine⟨hn,by simp,λa ha b hb e=>?_⟩;simp only[aI,aR,aK]at hb;obtain⟨z,hz,rfl⟩:=cN.1 ha;rw[jw]at hf;exact hf z hz (by simp only[beq_iff_eq];rw[e,hb])
 |case5 x r m hv hc =>
  intro m' h;rw[iF,if_neg hv,if_pos hc]at h;cases h
 |case6 x r m hv hc ih =>
  intro m' h hn;rw[iF,if_neg hv,if_neg hc]at h;exact ih m' h hn
theorem Wu {b:List Bd} {a:Li} {x y:Tm} {F:List Bd->Bool} (h:lu b a x y F=true) :
  ∃m:List Bd,(∀z∈b,z∈m)/\((b.map Bd.v).Nodup->(m.map Bd.v).Nodup)/\(∀f,nY m f->a.l.ap f=x/\a.r.ap f=y)/\F m=true:=by
 unfold lu at h;cases h1:nE b a.l x with
 |none=>rw[h1]at h;cases h
 | some m =>
  rw[h1]at h;simp only at h;cases h2:nE m a.r y with
  |none=>rw[h2]at h;cases h
  |some k =>
   rw[h2]at h;obtain⟨p1,p2⟩:=Oe _ _ _ h1;obtain⟨q1,q2⟩:=Oe _ _ _ h2;refine⟨k,λz hz=>q1 z (p1 z hz),λhn=>U9 _ _ _ h2 (U9 _ _ _ h1 hn),λf hf=>⟨?_,?_⟩,h⟩
   ·exact p2 f (λz hz=>hf z (q1 z hz)) (a.l,x) (by simp)
   ·exact q2 f hf (a.r,y) (by simp)
theorem W0 {b:List Bd} {a l:Li} {F:List Bd->Bool} (h:mq b a l F=true) :
  ia a=ia l/\∃m:List Bd,(∀z∈b,z∈m)/\((b.map Bd.v).Nodup->(m.map Bd.v).Nodup)/\(∀f,nY m f->J3 f a l)/\F m=true:=by
 unfold mq at h;split at h
 ·cases h
 rename_i hk;refine⟨jP.1 hk,?_⟩;rcases cb _ _ ▸ h with h|h
 ·obtain⟨m,m1,m2,m3,m4⟩:=Wu h;exact⟨m,m1,m2,λf hf=>.inl (m3 f hf),m4⟩
 ·obtain⟨m,m1,m2,m3,m4⟩:=Wu h;exact⟨m,m1,m2,λf hf=>.inr (m3 f hf),m4⟩
theorem LZ {m:List Bd}(h:(m.map Bd.v).Nodup):nY m (ng m):=LN h
def w_ (d:List Li)(f:Int->Tm):List Li->List Bool->Prop
 |[],_=>True
 |a :: c,us=>∃k:Nat,k<d.length/\us.getD k false=false/\(d.getD k iu).neg=a.neg/\ia a=ia (d.getD k iu)/\J3 f a (d.getD k iu)/\w_ d f c (us.set k true)
theorem Xr {f:Int->Tm}{a:Li}{x y:Tm}{b:List Bd}{F:List Bd->Bool}(h1:a.l.ap f=x)(h2:a.r.ap f=y)(hb:nY b f)(hF:∀m,nY m f->F m=true):lu b a x y F=true:=by
 unfold lu nE;obtain⟨m,e1,t1⟩:=Lx (f:=f) [(a.l,x)] b (λz hz=>by rw[aK.1 hz];exact h1) hb;obtain⟨k,e2,t2⟩:=Lx (f:=f) [(a.r,y)] m (λz hz=>by rw[aK.1 hz];exact h2) t1;rw[e1];simp only
 rw[e2];exact hF k t2
theorem XX {f:Int->Tm}{a l:Li}{b:List Bd}{F:List Bd->Bool}(hk:ia a=ia l)(h:J3 f a l)(hb:nY b f)(hF:∀m,nY m f->F m=true):mq b a l F=true:=by
 unfold mq;rw[if_neg (λk=>k hk),cb];rcases h with⟨e1,e2⟩|⟨e1,e2⟩
 ·exact .inl (Xr e1 e2 hb hF)
 ·exact .inr (Xr e1 e2 hb hF)
theorem Qd (d:List Li):∀(c:List Li) (us:List Bool) (b:List Bd),nJ d c us b=true ->
  ∃m:List Bd,(∀z∈b,z∈m)/\((b.map Bd.v).Nodup->(m.map Bd.v).Nodup)/\∀f,nY m f->w_ d f c us
 |[],us,b,_=>⟨b,λ_ h=>h,id,λf _=>trivial⟩
 |a :: c,us,b,h=>by
  rw[nJ]at h;obtain⟨k,hk,h⟩:=cP.1 h;rw[cd]at hk;simp only[aG,bX,decide_eq_true_eq]at h;obtain⟨⟨h1,h2⟩,h3⟩:=h;obtain⟨h4,m,m1,m2,m3,m4⟩:=W0 h3;obtain⟨q,q1,q2,q3⟩:=Qd d c _ m m4;exact⟨q,λz hz=>q1 z (m1 z hz),λhn=>q2 (m2 hn),λf hf=>⟨k,hk,h1,h2,h4,m3 f (λz hz=>hf z (q1 z hz)),q3 f hf⟩⟩
theorem Pm (d:List Li) (f:Int->Tm):∀(c:List Li) (us:List Bool) (b:List Bd),w_ d f c us->nY b f->nJ d c us b=true
 |[],us,b,_,_=>by rw[nJ]
 |a :: c,us,b,⟨k,hk,h1,h2,h3,h4,h5⟩,hb=>by
  rw[nJ];refine cP.2 ⟨k,cd.2 hk,?_⟩;rw[h1,decide_eq_true h2,XX h3 h4 hb λm hm=>Pm d f c _ m h5 hm];rfl
theorem Yv6 {d c:List Li}{us:List Bool}{b:List Bd}(hn:(b.map Bd.v).Nodup):nJ d c us b=true↔∃f,nY b f/\w_ d f c us:=by
 constructor
 ·intro h;obtain⟨m,m1,m2,m3⟩:=Qd d c us b h;have ht:=LZ (m2 hn);exact⟨_,λz hz=>ht z (m1 z hz),m3 _ ht⟩
 ·rintro⟨f,h1,h2⟩;exact Pm d f c us b h2 h1
def yt (p t:List Tm)(s:List Bd):List (List Bd):=if (ei p t s).2=true then [(ei p t s).1] else []
def jE (a b:Li)(s:List Bd):List (List Bd):=if ia a≠ia b then [] else yt [a.l,a.r] [b.l,b.r] s++yt [a.l,a.r] [b.r,b.l] s
def iA (d:List Li):List Li->List Bool->List Bd->Bool
 |[],_,_=>true
 |a :: c,us,s=>(List.range d.length).any λk=>!us.getD k false&&decide ((d.getD k iu).neg=a.neg)&&(jE a (d.getD k iu) s).any λm=>iA d c (us.set k true) m
theorem Yj {a:Li}{x y:Tm}{s m:List Bd}(h:m∈yt [a.l,a.r] [x,y] s):(∀z∈s,z∈m)/\((s.map Bd.v).Nodup->(m.map Bd.v).Nodup)/\∀f,nY m f->a.l.ap f=x/\a.r.ap f=y:=by
 unfold yt at h;split at h
 ·rename_i hc;rw[aK.1 h];obtain⟨p1,p2⟩:=NF [a.l,a.r] [x,y] s rfl hc;refine⟨p1,Px _ _ _,λf hf=>?_⟩;have:=p2 f hf;simp only[aI,aR,gG,and_true]at this;exact this
 ·cases h
theorem YG {f:Int->Tm}{a:Li}{x y:Tm}{s:List Bd}(h1:a.l.ap f=x)(h2:a.r.ap f=y)(hs:nY s f):∃m∈yt [a.l,a.r] [x,y] s,nY m f:=by
 obtain⟨p1,p2⟩:=NP (f:=f) [a.l,a.r] [x,y] s (by rw[<-h1,<-h2];rfl) hs;unfold yt;rw[if_pos p1];exact⟨_,by simp,p2⟩
theorem VZ {a l:Li}{s m:List Bd}(h:m∈jE a l s):ia a=ia l/\(∀z∈s,z∈m)/\((s.map Bd.v).Nodup->(m.map Bd.v).Nodup)/\∀f,nY m f->J3 f a l:=by
 unfold jE at h;split at h
 ·cases h
 rename_i hk;refine⟨jP.1 hk,?_⟩;rcases a_.1 h with h|h
 ·obtain⟨p1,p2,p3⟩:=Yj h;exact⟨p1,p2,λf hf=>.inl (p3 f hf)⟩
 ·obtain⟨p1,p2,p3⟩:=Yj h;exact⟨p1,p2,λf hf=>.inr (p3 f hf)⟩
theorem WK {f:Int->Tm}{a l:Li}{s:List Bd}(hk:ia a=ia l)(h:J3 f a l)(hs:nY s f):∃m∈jE a l s,nY m f:=by
 unfold jE;rw[if_neg (λk=>k hk)];rcases h with⟨e1,e2⟩|⟨e1,e2⟩
 ·obtain⟨m,m1,m2⟩:=YG e1 e2 hs;exact⟨m,gb _ m1,m2⟩
 ·obtain⟨m,m1,m2⟩:=YG e1 e2 hs;exact⟨m,jJ _ m1,m2⟩
theorem Oq (d:List Li):∀(c:List Li) (us:List Bool) (b:List Bd),iA d c us b=true ->
  ∃m:List Bd,(∀z∈b,z∈m)/\((b.map Bd.v).Nodup->(m.map Bd.v).Nodup)/\∀f,nY m f->w_ d f c us
 |[],us,b,_=>⟨b,λ_ h=>h,id,λf _=>trivial⟩
 |a :: c,us,b,h=>by
  rw[iA]at h;obtain⟨k,hk,h⟩:=cP.1 h;rw[cd]at hk;simp only[aG,bX,decide_eq_true_eq]at h;obtain⟨⟨h1,h2⟩,h3⟩:=h;obtain⟨m,hm,m4⟩:=cP.1 h3;obtain⟨h4,m1,m2,m3⟩:=VZ hm;obtain⟨q,q1,q2,q3⟩:=Oq d c _ m m4;exact⟨q,λz hz=>q1 z (m1 z hz),λhn=>q2 (m2 hn),λf hf=>⟨k,hk,h1,h2,h4,m3 f (λz hz=>hf z (q1 z hz)),q3 f hf⟩⟩
theorem NV (d:List Li) (f:Int->Tm):∀(c:List Li) (us:List Bool) (b:List Bd),w_ d f c us->nY b f->iA d c us b=true
 |[],us,b,_,_=>by rw[iA]
 |a :: c,us,b,⟨k,hk,h1,h2,h3,h4,h5⟩,hb=>by
  rw[iA];refine cP.2 ⟨k,cd.2 hk,?_⟩;obtain⟨m,m1,m2⟩:=WK h3 h4 hb;rw[h1,decide_eq_true h2,cP.2 ⟨m,m1,NV d f c _ m h5 m2⟩];rfl
theorem Ycn {d c:List Li}{us:List Bool}{b:List Bd}(hn:(b.map Bd.v).Nodup):iA d c us b=true↔∃f,nY b f/\w_ d f c us:=by
 constructor
 ·intro h;obtain⟨m,m1,m2,m3⟩:=Oq d c us b h;have ht:=LZ (m2 hn);exact⟨_,λz hz=>ht z (m1 z hz),m3 _ ht⟩
 ·rintro⟨f,h1,h2⟩;exact NV d f c us b h2 h1
theorem Uq {d:List Li} {f:Int->Tm}:∀(c:List Li) (us:List Bool),us.length=d.length->w_ d f c us->c.length<=us.count false
 |[],us,_,_=>aj _
 |a :: c,us,hl,⟨k,hk,h1,_,_,_,h5⟩=>by
  have ih:=Uq c _ (by simpa using hl) h5;have pH:k<us.length:=by omega
  have e:us[k]=false:=by simpa[List.getD,pH] using h1
  rw[List.count_set pH,e]at ih;simp at ih;have oS : 0<us.count false:=List.count_pos_iff.2 (by rw[<-e];exact ay pH);rw[aq];omega
def Ex (c d:List Li):Bool:=iA d c (ff d) []
theorem Ymg (c d:List Li):Ex c d=pM c d:=by
 unfold Ex pM;rw[eK,Ycn (by simp),aG,Yv6 (by simp),decide_eq_true_eq];constructor
 ·rintro⟨f,h1,h2⟩;refine⟨?_,f,h1,h2⟩;have:=Uq c (ff d) (by unfold ff;simp) h2;unfold ff at this;rw[List.count_replicate]at this;simpa using this
 ·rintro⟨_,h⟩;exact h
def nM (c d:List Li)(i k:Nat):Bool:=decide ((c.getD i iu).neg≠(d.getD k iu).neg)&&(jE (c.getD i iu) (d.getD k iu) []).any λm=>iA d (c.eraseIdx i) ((ff d).set k true) m
theorem Yfq (c d:List Li)(i k:Nat):nM c d i k=cutAt c d k i:=by
 unfold nM cutAt;congr 1;rw[eK];constructor
 ·intro h;obtain⟨m,hm,h⟩:=cP.1 h;obtain⟨h4,m1,m2,m3⟩:=VZ hm;obtain⟨q,q1,q2,q3⟩:=Oq d _ _ m h;have ht:=LZ (q2 (m2 (by simp)));exact XX h4 (m3 _ λz hz=>ht z (q1 z hz)) (λz hz=>by cases hz) λx hx=>Pm d _ _ _ x (q3 _ ht) hx
 ·intro h;obtain⟨h4,m,m1,m2,m3,m4⟩:=W0 h;obtain⟨q,q1,q2,q3⟩:=Qd d _ _ m m4;have ht:=LZ (q2 (m2 (by simp)));obtain⟨x,x1,x2⟩:=WK (s:=[]) h4 (m3 _ λz hz=>ht z (q1 z hz)) (λz hz=>by cases hz);exact cP.2 ⟨x,x1,NV d _ _ _ x (q3 _ ht) x2⟩
def yr (c d:List Li):Option Nat:=(List.range d.length).find? λk=>(List.range c.length).any λi=>nM c d i k
theorem Ynn (c d:List Li):yr c d=vD c d:=by unfold yr vD;simp only[Yfq]
theorem Xf:∀(ts:List Tm) (S o:List Int),Tm.fW ts (da S o)=da S (Tm.fW ts o)
 |[],_,_=>rfl
 |t :: ts,S,o=>by rw[Tm.fW,Tm.fW,<-Nn,Xf ts]
mutual
theorem Yot:∀(t:Tm) (S:List Int),t.good=true->(t.num S).2=da S t.vars
 | .mk h ts,S,hg=>by
  rw[Tm.num,Tm.vars];by_cases hn:h<0
  ·have ha:=N6 hg hn;simp only[Tm.args]at ha;subst ha;rw[if_pos hn,if_pos hn];rfl
  ·rw[if_neg hn,if_neg hn];simp only
   rw[OA ts S (zD hg),<-Xf];rfl
theorem OA:∀(ts:List Tm) (S:List Int),(∀t∈ts,t.good=true)->(Tm.gX ts S).2=Tm.fW ts S
 |[],_,_=>rfl
 |t :: ts,S,hg=>by
  rw[Tm.gX,Tm.fW];simp only
  rw[Yot t S (hg t (by simp)),OA ts _ λx hx=>hg x (by simp[hx])]
end
def jm (n:Nat):List Int->List Bd
 |[]=>[]
 |v :: vs=>⟨v,vr n⟩ :: jm (n+1) vs
theorem Zw:∀(vs:List Int) (n:Nat) (v:Int),v∈vs->ng (jm n vs) v=vr ((n+vs.idxOf v:Nat):Int)
 | x :: vs,n,v,hv=>by
  unfold ng;rw[jm,iN,List.idxOf_cons];by_cases e:x=v
  ·subst e;simp
  ·rw [show(x==v)=false by simp[e]];simp only[cond_false];have:=Zw vs (n+1) v (by
    rcases aU.1 hv with h|h
    ·exact absurd h.symm e
    ·exact h)
   unfold ng at this;rw[this];congr 1;omega
def xY (c:List Li):List Li:=c.map λl=>⟨l.neg,l.l.pd (jm 0 (eY c)),l.r.pd (jm 0 (eY c))⟩
theorem Yhq {g:List Sy} {d:List Li} (hd:iC g d):xY d=px d:=by
 obtain⟨h1,h2,h3⟩:=UL hd;have hv:eY d=oi d:=by unfold eY oi;rw[OA _ _ (Wc hd)]
 rw[h3];unfold xY Dr;refine jf λl hl=>?_;have key:∀t:Tm,t.iS (· ∈ oi d)->t.pd (jm 0 (eY d))=t.rn (zx d):=λt ht=>by
  rw[DZ,hv];unfold Tm.rn;refine Ia t (Za (λv hv=>?_) t ht);rw[Zw _ _ _ hv];unfold zx;congr 1;omega
 unfold Li.rn;rw[key _ (h2 l hl).1,key _ (h2 l hl).2]
end Go.Proofs
namespace Go.Proofs
open Go Go.dq
theorem SZ (l:Li)(h:sY l):az Tryz.prog 76 [l.aH] (.bool (lO l)):=by
 refine az.begin (rs:=[.tmp 2]) (m:=7) 1000 Tryz.func76 rfl rfl rfl (by decide) trivial ?_;have h1:=BP l.l l.r (by have:=h.1;omega) (by have:=h.2;omega);unfold lO;generalize decide (l.l=l.r)=p at *
 simp only[go_sem,gf];refine ak.bm [] (h1) (by(try simp only[cq]);exact bL _ _ _) (by simp[go_sem,cV,bC]) ?_;simp only[bj,bA,bz,if_true];refine aC.g ?_
 simp only[go_sem]
theorem Ysc (a b:Li)(ha:sY a)(hb:sY b):az Tryz.prog 78 [a.aH,b.aH] (.bool (qH a b)):=by
 refine az.begin (rs:=[.tmp 4]) (m:=13) 1000 Tryz.func78 rfl rfl rfl (by decide) trivial ?_;have h:=XU a b ha hb;unfold qH;simp only[go_sem,gf];have hd:decide (a.neg≠b.neg) = !(a.neg==b.neg):=by cases a.neg<;>cases b.neg<;>rfl
 rw[hd];cases c:a.neg==b.neg
 ·simp only[go_sem,c];refine ak.bm [] h (bL _ _ _) ⟨jU _,jU _,trivial⟩ ?_;simp only[bj,bA,bz,if_true];refine aC.g ?_;simp only[go_sem,bO,l6]
 ·simp only[go_sem,c,bU,Bool.not_true]
theorem Zwv (a b:Li):mh a b=mh b a:=by
 unfold mh;rw[eK];simp only[cb,aG,decide_eq_true_eq];constructor<;>rintro(⟨h1,h2⟩|⟨h1,h2⟩)<;>simp[h1,h2]
theorem Yc5 (a b:Li):dv a b=dv b a:=by
 unfold dv;rw[Zwv,decide_eq_decide.2 ⟨Eq.symm,Eq.symm⟩]
theorem Yp9 (x:Li):eE ⟨5,true,72,[.bool false,.int .i64 0,.a8,.int .i64 0,.a8],.struct⟩ [.agg [.bool x.neg,.int .i64 x.l.head,.ps 2 (x.l.args.map Tm.aH),.int .i64 x.r.head,.ps 2 (x.r.args.map Tm.aH)]]:=by
 refine⟨λy hy=>?_,by decide,by decide,rfl⟩;rw[aK.1 hy];exact⟨rfl,rfl⟩
theorem Wz (c:List Li) (hc:∀l∈c,sY l) (hl:c.length<1000000):az Tryz.prog 35 [.ps 5 (lits c)] (.ps 5 (lits (iI c))):=by
 refine az.iq (rs:=[.tmp 2]) (m:=52) Tryz.func35 rfl rfl rfl (by decide) (bI _) ?_;refine aC.pad 1 (ae _) (by simp[go_sem,bI]) trivial ?_;obtain⟨Z,hZ⟩:∃Z,iI c=Z:=⟨_,rfl⟩;rw[hZ];unfold iI at hZ;refine aC.g ?_;simp only[go_sem];refine aC.ep (ι:={q:Nat×List Li // q.1<=c.length/\iV q.2 (c.drop q.1)=Z/\q.2.length<=q.1/\∀l∈q.2,sY l}) 1000
  (λq=>dV 53 [(0,.ps 5 (lits c)),(2,.a8),(3,eR 0 5 (lits q.1.2)),(4,.int .i64 q.1.1)])
  (λq=>[cX (lits q.1.2)]) (λq=>c.length-q.1.1) ⟨(0,[]),aj _,by simpa using hZ,ae _,λl hl=>by cases hl⟩ [] ?_ (λ_=>by simp) ?_
 ·refine eL rfl ?_;simp only[go_sem,show lits []=[] from rfl,pU,pC,bI,bT (bI _)]
 ·rintro ⟨⟨i,out⟩,hi,aD,B9,jB⟩;simp only at hi aD B9 jB;by_cases bx:(i:Int)<c.length
  ·have aL:i<c.length:=by omega
   have hw:=W1' i (by omega)
   have g1:=qs aL;have hx:=hc _ (ay aL);rw[ai aL,iV]at aD;generalize c[i]=x at *
   have hT:=SZ x hx;obtain⟨b0,ur⟩:∃b0,(x.neg&&lO x)=b0:=⟨_,rfl⟩;rw[ur]at aD;have qi:lits (out++[x])=lits out++[.agg [.bool x.neg,.int .i64 x.l.head,.ps 2 (x.l.args.map Tm.aH),.int .i64 x.r.head,.ps 2 (x.r.args.map Tm.aH)]]:=by simp[lits];rfl
   have lw:bG 0 (lits (out++[x])):=bI _;have nz:=Yp9 x;cases hn:x.neg
   case' false =>
    have qR:b0=false:=by rw[<-ur,hn];rfl
    simp only[go_sem,bx,dA,g1,gf,hn];refine⟨by omega,?_⟩;refine aC.EB (E4 (T:=(dV 53 [(0,.ps 5 (lits c)),(2,.a8),(3,eR 0 5 (lits out)),(4,.int .i64 i),(5,.bool b0),(6,.int .i64 0)])) (σ1:=[cX (lits out)]) ?_) (aj _) ?_
    ·simp only[go_sem,qR,bI]
   case' true =>
    have qR:lO x=b0:=by rw[<-ur,hn];rfl
    have tz:x.aH=.agg [.bool true,.int .i64 x.l.head,.ps 2 (x.l.args.map Tm.aH),.int .i64 x.r.head,.ps 2 (x.r.args.map Tm.aH)]:=by rw[<-hn];rfl
    rw[qR]at hT;simp only[go_sem,bx,dA,g1,gf,hn];refine⟨by omega,by omega,?_⟩;refine ak.bm [] hT (by rw[tz];exact bL _ _ _) ⟨jU _,trivial⟩ ?_;simp only[bj,bA,bz,if_true];refine aC.g ?_;simp only[go_sem];refine aC.EB (E4 (T:=(dV 53 [(0,.ps 5 (lits c)),(2,.a8),(3,eR 0 5 (lits out)),(4,.int .i64 i),(5,.bool b0),(6,.int .i64 0)])) (σ1:=[cX (lits out)]) ?_) (aj _) ?_
    ·simp only[go_sem,qR,bI]
   all_goals
    refine aC.cA (ι:={k:Nat // k<=out.length}) 1000 (λk=>dV 53 [(0,.ps 5 (lits c)),(2,.a8),(3,eR 0 5 (lits out)),(4,.int .i64 i),(5,.bool (b0||(out.take k.1).any λm=>dv x m)),(6,.int .i64 k.1)]) (λ_=>[cX (lits out)]) (λk=>out.length-k.1) ⟨0,aj _⟩ ?_ (λ_=>by simp) ?_
    ·simp only[go_sem,jh,fD,fX,bI]
    ·rintro ⟨k,hk⟩;have hend:∀b:Bool,(b0||(out.take k).any λm=>dv x m)=b->k=out.length->(if b=true then iV out (c.drop (i+1)) else iV (out++[x]) (c.drop (i+1)))=Z:=λb hb hk=>by
      rw[hk,bQ]at hb;rw[<-hb,Bool.or_comm];exact aD
     by_cases ov:(k:Int)<out.length
     ·have lD:k<out.length:=by omega
      have dL:lits out≠[]:=by intro e;have:=dA out;rw[e]at this;simp at this;omega
      have yC:=W1' k (by omega)
      have gk:=qs lD;have hS:=Ox out[k] x (jB _ (ay lD)) hx;rw[Yc5]at hS;have oB:(out.take (k+1)).any (λm=>dv x m)=((out.take k).any (λm=>dv x m)||dv x out[k]):=by rw[cx,ax lD,dx,rP];simp
      generalize out[k]=m at *
      obtain⟨b,hb⟩:∃b,(b0||(out.take k).any λm=>dv x m)=b:=⟨_,rfl⟩;simp only[go_sem,vY dL,vA dL,dA,ov,hb];refine aC.draw [] 1 1 mixed rfl rfl (by decide) ?_;cases b with
      |true =>
       simp only[go_sem,cM];refine aC.g ?_;simp only[go_sem,yC];refine⟨⟨k+1,lD⟩,?_,by simp only;omega⟩;simp only[oB,<-pP,hb,dE];simp only[go_sem,yC,bI,vY dL,vA dL,dA]
      |false =>
       simp only[go_sem,cM,vY dL,vA dL,dA,ov,gk,g1,bx,gf]
       (repeat((with_reducible refine And.intro ?_ ?_);·omega))
       refine jS hS (bL _ _ _) ⟨jU _,jU _,trivial⟩ ?_;simp only[go_sem];refine aC.g ?_;simp only[go_sem,yC];refine⟨⟨k+1,lD⟩,?_,by simp only;omega⟩;simp only[oB,<-pP,hb,cD];simp only[go_sem,yC,bI,vY dL,vA dL,dA]
     ·have eZ:k=out.length:=by omega
      obtain⟨b,hb⟩:∃b,(b0||(out.take k).any λm=>dv x m)=b:=⟨_,rfl⟩;have hz:=hend b hb eZ;simp only[go_sem,Pa,dA,ov,hb];refine aC.g ?_;cases b with
      |true =>
       rw[if_pos rfl]at hz;simp only[go_sem,hw];refine⟨⟨(i+1,out),by simp only;omega,hz,by simp only;omega,jB⟩,[],eL rfl ?_,by simp only;omega⟩;simp only[go_sem,hw,bI,bT (bI _)]
      | false =>
       rw[if_neg (by simp)]at hz;have hle:out.length+1<=1000000000:=by omega
       simp only[go_sem,bx,dA,g1,gf,qg,nz,hle];refine⟨by omega,?_⟩;refine⟨⟨(i+1,out++[x]),by simp only;omega,hz,by simp only[aA,aq,aF];omega,λl hl=>?_⟩,[(0,2),(2,0)],eL rfl ?_,by simp only;omega⟩
       ·rcases a_.1 hl with hl|hl
        ·exact jB l hl
        ·rw[aK.1 hl];exact hx
       dsimp only
       rw[qi]at lw ⊢;rw[qP (by simp),qQ (by simp)];simp only[go_sem,hw,dA,bI,bT (bI _),bT lw,iD (aj 1) lw,aq,aF]
  ·have dm:i=c.length:=by omega
   subst dm;rw[aJ,iV]at aD;subst aD;simp only[go_sem,bx,dA];refine aC.g ?_;simp only[go_sem,nI]
theorem Pq (l:List ah):tU (.dw l)=.dw l:=rfl
def nh (i:Nat)(R:Option bS):av:=if i=0 then [R,none] else [none,R]
theorem Xbz (i:Nat) (hi:i=0\/i=1) (x y:Tm) (s:List Bd) (z:List Bd×Bool) {K:ah->av->Prop}
  (h:ak Tryz.prog (.fn 206 [] []) [x.aH,y.aH,eR 0 3 (dp s)] [cX (dp s)] (CY s z))
  (h1:z.2=true->z.1=s->K (.dw [eR i 3 (dp z.1),.bool true]) (nh i (cX (dp z.1)))) (h2:z.2=true->K (.dw [eR 5 3 (dp z.1),.bool true]) [none,none,none,none,none,cX (dp z.1)])
  (h3:z.2=false->∀b l S,2<=S.length->K (.dw [eR b 3 (dp l),.bool false]) S) :
  ak Tryz.prog (.fn 206 [] []) [x.aH,y.aH,eR i 3 (dp s)] (nh i (cX (dp s))) K:=by
 have hl:(nh i (cX (dp s))).length=2:=by unfold nh;split<;>rfl
 have xm:∀(l:List Bd) (π:Nat->Nat),(cX (dp l)).map (eo π)=cX (dp l):=λl π=>by
  cases hb:dp l with
  |nil=>rfl
  |cons a t =>
   have lw:=of_eq_true (nq (n:=0) l);rw[hb]at lw;rw[BR,bD,xv,bT lw]
 have hs:∀b,b<1->b=0:=λb hb=>by omega
 have fc:(nh i (cX (dp s)))[i]? = some (cX (dp s)):=by rcases hi with rfl|rfl<;>rfl
 refine ak.kI (Z:=[cX (dp s)]) (f:=.fn 206 [] []) (args:=[x.aH,y.aH,eR 0 3 (dp s)]) (λ_=>i) (λb b' h1 h2 e=>by rw[hs b h1,hs b' h2]) (λb hb=>by rw[hl];omega) (λb hb=>?_) (by simp[go_sem]) rfl ⟨cV _,cV _,um (by simp) _ _,trivial⟩ ?_ (by simp[go_sem]) h ?_
 ·have:b=0:=hs b hb;subst this;exact⟨cX (dp s),rfl,by rw[fc,xm]⟩
 ·simp only[eC,zJ (H_ _),yZ]
 rintro r Z' (⟨hz,rfl,rfl,e⟩|⟨hz,rfl,rfl⟩|⟨hz,b,l,rfl,hb,iG⟩)
 ·refine ⟨by simp,by simp[go_sem],by simp[go_sem],?_⟩;have he:ix (λ_=>i) [cX (dp s)].length [cX (dp z.1)] (nh i (cX (dp s)))=nh i (cX (dp z.1)):=by
   rw[e];unfold nh;rcases hi with rfl|rfl<;>simp[ix,eQ,lX,xm]
  rw[he];simp only[ez,eC,yZ,lX];exact h1 hz e
 ·refine ⟨by simp,by simp[go_sem],by simp[go_sem],?_⟩;have he:ix (λ_=>i) [cX (dp s)].length [none,none,none,none,cX (dp z.1)] (nh i (cX (dp s)))=[none,none,none,none,none,cX (dp z.1)]:=by
   unfold nh;rcases hi with rfl|rfl<;>simp[ix,eQ,lX,xm]
  rw[he];have e5:lX (λ_=>i) 1 2 4=5:=rfl;simp only[ez,eC,yZ,hl,aq,aF,br,e5];exact h2 hz
 ·refine⟨by simp only[aq,aF];omega,iG,by simp[go_sem,um hb],?_⟩;simp only[ez,eC,yZ];exact h3 hz _ _ _ (by rw[DU (by simp only[aq,aF];omega),hl];omega)
theorem ak.CT {P:Program} {σ:av} {g:FuncId} {fn:Func} {c:Code} {first captured args all:List ah} {K:ah->av->Prop} {m:Nat} {rs:List ResultVar} (hf:P.funcs[g]? = some fn) (hb:fn.body=some c) (hr:fn.results.toList=rs)
  (fj : first ++ args ++ captured = all) (hm : fn.ntmps - all.length = m) (fe : (fn.name == "runtime.NumGoroutine") = false)
  (h:aC P ⟨σ.length,none⟩ (rL P rs (dq.ug K σ.length)) [.code c] .normal ⟨all++List.replicate m .undef,σ⟩):ak P (.fn g first captured) args σ K:=by
 subst hr hm;exact ak.sh (by rw[fj];exact cj.ug (cj.body hf hb fe h))
def wK (p t:List Tm)(s:List Bd):List Bd×Bool:=if (ei p t s).2=true then ei p t s else ([],false)
set_option maxHeartbeats 1000000 in
theorem Yc2 (p t:List Tm) (s:List Bd) (Em:p.length=t.length) (hp:Tm.bw p<100000) (ht:Tm.bw t<100000) (hg:∀x∈p,x.good=true) (hs:s.length<100000) (eM:∀b∈s,b.t.size<1000000) :
  ak Tryz.prog (.fn 182 [] []) [.ps 2 (p.map Tm.aH),.ps 2 (t.map Tm.aH),eR 0 3 (dp s)] [cX (dp s)] (λr σ'=>r=.dw [.ps 3 (dp (wK p t s).1),.bool (wK p t s).2]/\σ'=[none]):=by
 refine ak.CT (rs:=[.tmp 6,.tmp 7]) (m:=31) Tryz.func182 rfl rfl rfl rfl (by decide) ?_;have tE:=mH p;have zi:=mH t;obtain⟨Z,hZ⟩:∃Z,ei p t s=Z:=⟨_,rfl⟩;have hD:wK p t s=if Z.2=true then Z else ([],false):=by unfold wK;rw[hZ]
 rw[hD];refine aC.pad 1 (ae _) (by simp[go_sem,bC,um]) (by simp[go_sem]) ?_;refine aC.g ?_;simp only[go_sem];have QC : [cX (dp s),none]=nh 0 (cX (dp s)):=rfl;rw[QC];refine aC.ep (ι:={q:Nat×List Bd×Nat // q.1<=p.length/\(q.2.2=0\/q.2.2=1)/\ei (p.drop q.1) (t.drop q.1) q.2.1=Z/\q.2.1.length<=s.length+Tm.bw (p.take q.1)/\∀b∈q.2.1,b.t.size<1000000}) 1000
  (λq=>dV 34 [(0,.ps 2 (p.map Tm.aH)),(1,.ps 2 (t.map Tm.aH)),(2,eR q.1.2.2 3 (dp q.1.2.1)),(6,.a8),(7,.bool false),(8,.int .i64 q.1.1)])
  (λq=>nh q.1.2.2 (cX (dp q.1.2.1))) (λq=>p.length-q.1.1) ⟨(0,s,0),by omega,.inl rfl,by simpa using hZ,bV _ _,eM⟩ [] ?_ (λ_=>by unfold nh;split<;>simp) ?_
 ·refine eL rfl ?_;unfold nh;simp only[go_sem,bC,bT (bC _)]
 ·rintro ⟨⟨i,s',a⟩,hi,uV,aD,u0,qb⟩;simp only at hi uV aD u0 qb;by_cases bx:(i:Int)<p.length
  ·have aL:i<p.length:=by omega
   have nQ:i<t.length:=by omega
   have oR:(i:Int)<t.length:=by omega
   have hw:=W1' i (by omega)
   have D5:(p.map Tm.aH).getD i .undef=p[i].aH:=jT aL;have He:(t.map Tm.aH).getD i .undef=t[i].aH:=jT nQ;have z1:=sn p i aL;have z2:=sn t i nQ;have rD:=zC p i aL;have gE:=yj p (i+1);have FA:=hg _ (ay aL);rw[ai aL,ai nQ,ei]at aD;generalize p[i]=x at *
   generalize t[i]=y at *
   have uJ:=n9 x;have pq:ak Tryz.prog (.fn 206 [] []) [x.aH,y.aH,eR 0 3 (dp s')] [cX (dp s')] (CY s' (gI x y s')):=by
    obtain⟨h2,Ki⟩:=x;simp only[Tm.args]at uJ;exact N9 _ h2 Ki y s' (cQ _) FA (by omega) (by omega) qb
   have wS:=LC x y s';have wZ:∀b∈(gI x y s').1,b.t.size<1000000:=Ii (P:=λt=>t.size<1000000) KM x y s' (by omega) qb;generalize gI x y s'=z at *
   have RY:(nh a (cX (dp s'))).length=2:=by unfold nh;split<;>rfl
   simp only[go_sem,bx];refine aC.oN [] 2 2 mixed rfl RY (by decide) 9 rfl rfl rfl rfl ?_;have RN:cM 2 (nh a (cX (dp s')))=nh a (cX (dp s')):=by unfold nh;split<;>rfl
   rw[RN];simp only[go_sem,cM,D5,He,dO,bx,oR]
   (repeat((with_reducible refine And.intro ?_ ?_);·omega))
   refine aC.g ?_;simp only[go_sem];refine L6 rfl ?_;simp only[go_sem];rw[<-cq x,<-cq y];refine Xbz a uV x y s' z pq (λe1 e2 _=>?_) (λe1 _=>?_) (λe1 b l S hS _=>?_)
   ·rw[e1,if_pos rfl]at aD;simp only[go_sem,e1];refine aC.g ?_;simp only[go_sem,hw];rcases uV with rfl|rfl
    ·refine⟨⟨(i+1,z.1,0),aL,.inl rfl,aD,by simp only;omega,wZ⟩,[],eL rfl ?_,by simp only;omega⟩;unfold nh;simp only[go_sem,hw,bC,bT (bC _)]
    ·refine⟨⟨(i+1,z.1,1),aL,.inr rfl,aD,by simp only;omega,wZ⟩,[],eL rfl ?_,by simp only;omega⟩;unfold nh;simp only[go_sem,hw,bC,bT (bC _)]
   ·rw[e1,if_pos rfl]at aD;simp only[go_sem,e1];refine aC.g ?_;simp only[go_sem,hw];refine⟨⟨(i+1,z.1,1),aL,.inr rfl,aD,by simp only;omega,wZ⟩,[(1,5),(5,1)],eL rfl ?_,by simp only;omega⟩;unfold nh;simp only[go_sem,hw,bC,bT (bC _)]
   ·rw[e1,if_neg (by simp)]at aD;subst aD;simp only[go_sem,e1];refine aC.g ?_;simp only[go_sem];refine aC.g ?_;simp only[go_sem];rw[Gp];refine⟨.dw [.ps 3 (dp []),.bool false],?_,⟨of_eq_true (nq _),trivial,trivial⟩,rfl,rfl⟩;simp only[go_sem,Pq,show dp []=[] from rfl]
  ·have dm:i=p.length:=by omega
   subst dm;rw[aJ,ei]at aD;subst aD;rw[if_pos rfl];simp only[go_sem,bx];refine aC.g ?_;simp only[go_sem];rw[Gp];refine⟨.dw [.ps 3 (dp s'),.bool true],?_,⟨of_eq_true (nq _),trivial,trivial⟩,rfl,rfl⟩;rcases uV with rfl|rfl
   ·unfold nh;simp only[go_sem,Pq,nI]
   ·unfold nh;simp only[go_sem,Pq,nI]
theorem MU (i:Nat) (p t:List Tm) (s:List Bd) (σ:av) (Em:p.length=t.length) (hp:Tm.bw p<100000) (ht:Tm.bw t<100000) (hg:∀x∈p,x.good=true) (hs:s.length<100000) (eM:∀b∈s,b.t.size<1000000)
  (hi : σ[i]? = some (cX (dp s))) {K:ah->av->Prop} (h:K (.dw [.ps 3 (dp (wK p t s).1),.bool (wK p t s).2]) (σ.set i none)) :
  ak Tryz.prog (.fn 182 [] []) [.ps 2 (p.map Tm.aH),.ps 2 (t.map Tm.aH),eR i 3 (dp s)] σ K:=by
 have rV:i < σ.length:=(aN.1 hi).1;have xm:∀(π:Nat->Nat),(cX (dp s)).map (eo π)=cX (dp s):=λπ=>by
  cases hb:dp s with
  |nil=>rfl
  |cons a t =>
   have lw:=of_eq_true (nq (n:=0) s);rw[hb]at lw;rw[BR,bD,xv,bT lw]
 have lJ:∀b,b<1->b=0:=λb hb=>by omega
 refine ak.kI (Z:=[cX (dp s)]) (f:=.fn 182 [] []) (args:=[.ps 2 (p.map Tm.aH),.ps 2 (t.map Tm.aH),eR 0 3 (dp s)]) (λ_=>i) (λb b' h1 h2 e=>by rw[lJ b h1,lJ b' h2]) (λb hb=>rV) (λb hb=>?_) (by simp[go_sem]) rfl ⟨bC _,bC _,um (by simp) _ _,trivial⟩ ?_ (by simp[go_sem]) (Yc2 p t s Em hp ht hg hs eM) ?_
 ·have:b=0:=lJ b hb;subst this;exact⟨cX (dp s),rfl,by rw[hi,xm]⟩
 ·simp[go_sem,yZ,bT (bC _)]
 rintro r Z' ⟨rfl,rfl⟩;refine⟨by simp,by simp[go_sem],⟨of_eq_true (nq _),trivial,trivial⟩,?_⟩;have he:ix (λ_=>i) [cX (dp s)].length [none] σ = σ.set i none:=by simp[ix,eQ,lX]
 rw[he,zJ (show(ah.dw [.ps 3 (dp (wK p t s).1),.bool (wK p t s).2]).low 0 from⟨of_eq_true (nq _),trivial,trivial⟩)]
 exact h
theorem Ycq (c:List Li) (hc:∀l∈c,sY l) (hl:c.length<1000000):az Tryz.prog 36 [.ps 5 (lits c)] (.bool (kB c)):=by
 refine az.begin (rs:=[.tmp 2]) (m:=37) 1000 Tryz.func36 rfl rfl rfl (by decide) trivial ?_;obtain⟨Z,hZ⟩:∃Z,kB c=Z:=⟨_,rfl⟩;rw[hZ];unfold kB at hZ;simp only[go_sem];refine aC.cA (ι:={i:Nat // i<=c.length/\qL (c.take i) (c.drop i)=Z}) 1000
  (λq=>dV 38 [(0,.ps 5 (lits c)),(2,.bool false),(3,.int .i64 q.1)]) (λ_=>[]) (λq=>c.length-q.1) ⟨0,aj _,by simpa using hZ⟩ ?_ (λ_=>aj _) ?_
 ·simp only[go_sem,bI]
 ·rintro ⟨i,hi,aD⟩;by_cases bx:(i:Int)<c.length
  case neg =>
   have dm:i=c.length:=by omega
   subst dm;rw[aJ,qL]at aD;subst aD;simp only[go_sem,bx,dA];refine aC.g ?_;simp only[go_sem]
  have aL:i<c.length:=by omega
  have hw:=W1' i (by omega)
  have g1:=qs aL;have hx:=hc _ (ay aL);have hT:=SZ c[i] hx;have oB:c.take (i+1)=c.take i++[c[i]]:=by rw[cx,ax aL,dx]
  rw[ai aL,qL]at aD;generalize c[i]=x at *
  obtain⟨b0,ur⟩:∃b0,(!x.neg&&lO x)=b0:=⟨_,rfl⟩;rw[ur]at aD;cases b0 with
  |true =>
   rw[Bool.or_true,if_pos rfl]at aD;subst aD;simp only[aG,bX]at ur;obtain⟨hn,ht⟩:=ur;rw[ht]at hT;have tz:x.aH=.agg [.bool false,.int .i64 x.l.head,.ps 2 (x.l.args.map Tm.aH),.int .i64 x.r.head,.ps 2 (x.r.args.map Tm.aH)]:=by rw[<-hn];rfl
   simp only[go_sem,bx,dA,g1,gf,hn]
   (repeat((with_reducible refine And.intro ?_ ?_);·omega))
   refine ak.bm [] hT (by rw[tz];exact bL _ _ _) ⟨jU _,trivial⟩ ?_;simp only[bj,bA,bz,if_true];refine aC.g ?_;simp only[go_sem];refine aC.g ?_;simp only[go_sem]
  |false =>
  rw[fX]at aD;cases hn:x.neg
  case' false =>
   rw[hn,l6,bO]at ur;rw[ur]at hT;have tz:x.aH=.agg [.bool false,.int .i64 x.l.head,.ps 2 (x.l.args.map Tm.aH),.int .i64 x.r.head,.ps 2 (x.r.args.map Tm.aH)]:=by rw[<-hn];rfl
   simp only[go_sem,bx,dA,g1,gf,hn]
   (repeat((with_reducible refine And.intro ?_ ?_);·omega))
   refine ak.bm [] hT (by rw[tz];exact bL _ _ _) ⟨jU _,trivial⟩ ?_;simp only[bj,bA,bz,if_true];refine aC.g ?_;simp only[go_sem];refine aC.EB (E4 (T:=(dV 38 [(0,.ps 5 (lits c)),(2,.bool false),(3,.int .i64 i),(4,.int .i64 0)])) (σ1:=[]) ?_) (aj _) ?_
   ·simp only[go_sem,bI]
  case' true =>
   simp only[go_sem,bx,dA,g1,gf,hn]
   (repeat((with_reducible refine And.intro ?_ ?_);·omega))
   refine aC.EB (E4 (T:=(dV 38 [(0,.ps 5 (lits c)),(2,.bool false),(3,.int .i64 i),(4,.int .i64 0)])) (σ1:=[]) ?_) (aj _) ?_
   ·simp only[go_sem,bI]
  all_goals
   refine aC.cA (ι:={k:Nat // k<=i/\((c.take k).any λm=>qH x m)=false}) 1000
    (λq=>dV 38 [(0,.ps 5 (lits c)),(2,.bool false),(3,.int .i64 i),(4,.int .i64 q.1)]) (λ_=>[]) (λq=>i-q.1) ⟨0,aj _,rfl⟩ ?_ (λ_=>aj _) ?_
   ·simp only[go_sem,bI]
   ·rintro ⟨k,hk,pH⟩;by_cases ov:(k:Int)<i
    ·have lD:k<c.length:=by omega
     have yC:=W1' k (by omega)
     have Rq:(k:Int)<c.length:=by omega
     have gk:=qs lD;have hO:=Ysc x c[k] hx (hc _ (ay lD));have FY:(c.take (k+1)).any (λm=>qH x m)=((c.take k).any (λm=>qH x m)||qH x c[k]):=by rw[cx,ax lD,dx,rP];simp
     have j0:c[k]∈c.take i:=List.mem_take_iff_getElem.2 ⟨k,by omega,rfl⟩;generalize c[k]=m at *
     simp only[go_sem,ov];refine aC.draw [] 0 0 mixed rfl rfl (by decide) ?_;simp only[go_sem,cM,dA,bx,Rq,gk,g1,gf]
     (repeat((with_reducible refine And.intro ?_ ?_);·omega))
     refine jS hO (bL _ _ _) ⟨jU _,jU _,trivial⟩ ?_;simp only[go_sem];refine aC.g ?_;cases ho:qH x m with
     |true =>
      rw[if_pos (cP.2 ⟨m,j0,ho⟩)]at aD;subst aD;simp only[go_sem];refine aC.g ?_;simp only[go_sem];refine aC.g ?_;simp only[go_sem]
     |false =>
      simp only[go_sem,yC];refine⟨⟨k+1,by omega,by rw[FY,pH,ho];rfl⟩,?_,by simp only;omega⟩;simp only[go_sem,yC,bI]
    ·have eZ:k=i:=by omega
     subst eZ;rw[pH,if_neg (by simp)]at aD;simp only[go_sem,ov];refine aC.g ?_;simp only[go_sem,hw];refine⟨⟨k+1,by omega,by rw[oB];exact aD⟩,?_,by simp only;omega⟩;simp only[go_sem,hw,bI]
theorem PB:az Tryz.prog 45 [] (.ps 4 (syms uN)):=by
 refine az.begin (rs:=[.tmp 0]) (m:=6) 1000 Tryz.func45 rfl rfl rfl (by decide) (cS _) ?_;have e1:syms uN=[.agg [.str ⟨#[36,116,114,117,101]⟩,.int .i64 0,.int .i64 1,.bool true],.agg [.str ⟨#[97]⟩,.int .i64 0,.int .i64 1,.bool false],.agg [.str ⟨#[102]⟩,.int .i64 1,.int .i64 1,.bool false],.agg [.str ⟨#[112]⟩,.int .i64 1,.int .i64 1,.bool true]]:=rfl;simp only[go_sem,e1]
theorem GC (t:Tm):az Tryz.prog 44 [t.aH] (.ps 5 (lits (ju t))):=by
 refine az.begin (rs:=[.tmp 2]) (m:=8) 1000 Tryz.func44 rfl rfl rfl (by decide) (bI _) ?_;have h1:=L4 3 [t];have h2:=L4 0 [];simp only[go_sem,dO];refine ak.bm [1] h1 ?_ (by simp[go_sem,cV]) ?_
 ·simp only[go_sem,k_,lb,aI,aR,cq]
 rw[show bj (Tm.mk 3 [t]).aH=false from rfl]
 refine aC.g ?_;simp only[go_sem,k_,lb];refine ak.bm [] h2 ?_ (by simp[go_sem,cV]) ?_
 ·simp only[go_sem,aR]
 rw[eW];simp only[ite_self];refine aC.g ?_;have e1:lits (ju t)=[.agg [.bool false,.int .i64 (Tm.mk 3 [t]).head,.ps 2 ((Tm.mk 3 [t]).args.map Tm.aH),.int .i64 (Tm.mk 0 []).head,.ps 2 ((Tm.mk 0 []).args.map Tm.aH)]]:=rfl;simp only[go_sem,dO,e1]
def pE (c:List Li):Bool:=jG c&&(decide (c.length<=6)||decide (32<c.length))
theorem Tj (c:List Li):az Tryz.prog 22 [.ps 5 (lits c)] (.bool (pE c)):=by
 refine az.begin (rs:=[.tmp 2]) (m:=14) 1000 Tryz.func22 rfl rfl rfl (by decide) trivial ?_;unfold pE;simp only[go_sem];refine ak.bm [] (WT c) (bL _ _ _) ⟨bI _,trivial⟩ ?_;simp only[bj,bA,bz,if_true];refine aC.g ?_;cases h:jG c
 ·simp only[go_sem]
 ·by_cases h1:c.length<=6
  ·have ou:(c.length:Int)<=6:=by omega
   simp only[go_sem,dA,ou,h1,decide_true,dE,Bool.and_self]
  ·have ou:¬(c.length:Int)<=6:=by omega
   by_cases h2 : 32<c.length
   ·have xi:(32:Int)<(c.length:Int):=by omega
    simp only[go_sem,dA,ou,h1,xi,h2,decide_true,decide_false,Bool.or_true,Bool.and_self]
   ·have xi:¬(32:Int)<(c.length:Int):=by omega
    simp only[go_sem,dA,ou,h1,xi,h2,decide_true,decide_false,fX,f_]
def re (c:List Li):Bool:=!pE c || !rr c
def uU (g:List Sy)(es:List (List Li))(c:List Li):Bool:=if es.length<=8/\es.any re=true then false else mN g&&qw es&&rr c&&pE c
theorem Ymn (g:List Sy) (es:List (List Li)) (c:List Li) (hc:c.length<=2600000000000):az Tryz.prog 8 [.ps 4 (syms g),.ps 1 (c9 es),.ps 5 (lits c)] (.bool (uU g es c)):=by
 refine az.begin (rs:=[.tmp 6]) (m:=44) 1000 Tryz.func8 rfl rfl rfl (by decide) trivial ?_;obtain⟨Z,hZ⟩:∃Z,uU g es c=Z:=⟨_,rfl⟩;rw[hZ];unfold uU at hZ;simp only[go_sem];refine aC.cA (ι:={i:Nat // i<=es.length/\(es.length<=8->(es.drop i).any re=es.any re)/\(i=0\/es.length<=8)}) 1000 (λq=>dV 47 [(0,.ps 4 (syms g)),(1,.ps 1 (c9 es)),(2,.ps 5 (lits c)),(6,.bool false),(7,.int .i64 q.1)])
  (λ_=>[]) (λq=>es.length-q.1) ⟨0,aj _,λ_=>rfl,.inl rfl⟩ ?_ (λ_=>aj _) ?_
 ·simp only[go_sem,cS,eh,bI]
 ·rintro ⟨i,hi,aD,h8⟩;have hend:(es.length<=8->es.any re=false)->(mN g&&qw es&&rr c&&pE c)=Z:=λh=>by
   rw[if_neg (by rintro⟨a,b⟩;rw[h a]at b;cases b)]at hZ;exact hZ
  have hS:=Ycj g;have hE:=Yee es;have ZO:=Xp c hc;have ZP:=Tj c;by_cases bx:(i:Int)<es.length
  ·have aL:i<es.length:=by omega
   by_cases Mm:es.length<=8
   ·have C0:(es.length:Int)<=8:=by omega
    have hw:=W1' i (by omega)
    have hp:=aD Mm;rw[ai aL,dI]at hp;have g1:=yn aL;have RT:=Tj es[i];have RS:=λh:es[i].length<=2600000000000=>Xp es[i] h;have hlen:pE es[i]=true->es[i].length<=40:=λh=>by
     unfold pE at h;rw[aG]at h;exact(Wy h.1).2
    generalize es[i]=r at *
    have qy:re r=true->Z=false:=λh=>by
     rw[h,dE]at hp;rw[if_pos ⟨Mm,hp.symm⟩]at hZ;exact hZ.symm
    have jB:re r=false->(es.drop (i+1)).any re=es.any re:=λh=>by rw[h,cD]at hp;exact hp
    simp only[go_sem,lP,bx,C0,g1];refine⟨by omega,?_⟩;refine ak.bm [] RT (bL _ _ _) ⟨bI _,trivial⟩ ?_;simp only[bj,bA,bz,if_true];refine aC.g ?_;cases q1:pE r
    ·have:=qy (by unfold re;rw[q1];rfl);subst this;simp only[go_sem];refine aC.g ?_;simp only[go_sem]
    ·have hr:=RS (by have:=hlen q1;omega);simp only[go_sem,lP,bx,C0,g1];refine⟨by omega,?_⟩;refine ak.bm [] hr (bL _ _ _) ⟨bI _,trivial⟩ ?_;simp only[bj,bA,bz,if_true];refine aC.g ?_;cases q2:rr r
     ·have:=qy (by unfold re;rw[q1,q2];rfl);subst this;simp only[go_sem];refine aC.g ?_;simp only[go_sem]
     ·simp only[go_sem,hw];refine⟨⟨i+1,by omega,λ_=>jB (by unfold re;rw[q1,q2];rfl),.inr Mm⟩,?_,by simp only;omega⟩;simp only[go_sem,cS,eh,bI]
   ·have C0:¬(es.length:Int)<=8:=by omega
    have hz:=hend λh=>absurd h Mm;clear hend;simp only[go_sem,lP,bx,C0];refine aC.g ?_;simp only[go_sem];refine ak.bm [] hS (bL _ _ _) ⟨cS _,trivial⟩ ?_;simp only[bj,bA,bz,if_true];refine aC.g ?_;cases e1:mN g
    ·rw[e1]at hz;rw[<-hz];simp only[go_sem]
    ·simp only[go_sem];refine ak.bm [] hE (bL _ _ _) ⟨eh _,trivial⟩ ?_;simp only[bj,bA,bz,if_true];refine aC.g ?_;cases e2:qw es
     ·rw[e1,e2]at hz;rw[<-hz];simp only[go_sem]
     ·simp only[go_sem];refine ak.bm [] ZO (bL _ _ _) ⟨bI _,trivial⟩ ?_;simp only[bj,bA,bz,if_true];refine aC.g ?_;cases e3:rr c
      ·rw[e1,e2,e3]at hz;rw[<-hz];simp only[go_sem]
      ·simp only[go_sem];refine ak.bm [] ZP (bL _ _ _) ⟨bI _,trivial⟩ ?_;simp only[bj,bA,bz,if_true];refine aC.g ?_;rw[e1,e2,e3,bO,bO,bO]at hz;rw[hz];simp only[go_sem]
  ·have dm:i=es.length:=by omega
   subst dm;have hz:=hend λh=>by rw[<-aD h,aJ];rfl
   simp only[go_sem,lP,bx];refine aC.g ?_;simp only[go_sem];refine ak.bm [] hS (bL _ _ _) ⟨cS _,trivial⟩ ?_;simp only[bj,bA,bz,if_true];refine aC.g ?_;cases e1:mN g
   ·rw[e1]at hz;rw[<-hz];simp only[go_sem]
   ·simp only[go_sem];refine ak.bm [] hE (bL _ _ _) ⟨eh _,trivial⟩ ?_;simp only[bj,bA,bz,if_true];refine aC.g ?_;cases e2:qw es
    ·rw[e1,e2]at hz;rw[<-hz];simp only[go_sem]
    ·simp only[go_sem];refine ak.bm [] ZO (bL _ _ _) ⟨bI _,trivial⟩ ?_;simp only[bj,bA,bz,if_true];refine aC.g ?_;cases e3:rr c
     ·rw[e1,e2,e3]at hz;rw[<-hz];simp only[go_sem]
     ·simp only[go_sem];refine ak.bm [] ZP (bL _ _ _) ⟨bI _,trivial⟩ ?_;simp only[bj,bA,bz,if_true];refine aC.g ?_;rw[e1,e2,e3,bO,bO,bO]at hz;rw[hz];simp only[go_sem]
theorem Nu (g:List Sy) (es:List (List Li)) (c:List Li) (h:qk es c) :
  az Tryz.prog 11 [.ps 4 (syms g),.ps 1 (c9 es),.ps 5 (lits c)] (.dw [.bool (decide ((jo g es c).1.gone≠0)),.int .i64 (jo g es c).2]):=by
 refine az.begin (rs:=[.tmp 6,.tmp 7]) (m:=18) 1000 Tryz.func11 rfl rfl rfl (by decide) ⟨trivial,trivial,trivial⟩ ?_;have hF:=Qc g es c h;generalize jo g es c=z at *
 obtain⟨⟨d,u,gn,wh⟩,e⟩:=z;unfold Si.aH at hF;simp only[go_sem];refine ak.bm [] hF (bL _ _ _) ⟨cS _,eh _,bI _,trivial⟩ ?_;rw[eW];simp only[ite_self];refine aC.g ?_;simp only[go_sem]
theorem Ysh:jo uN py (ju (jt jr))=(⟨ju jr,[0],0, -1⟩,0):=by kernel_rfl
theorem Yra:jo uN (py++[ju (jt iX)]) (ju (jt jr))=(⟨ju jr,[0],0, -1⟩,0):=by kernel_rfl
theorem Yv0:jo uN (py++[ju iX]) (ju (jt jr))=(⟨ju jr,[0],2,1⟩,0):=by kernel_rfl
theorem Yh:(jt jr).fit:=by simp[jt,jr,Tm.fit,Tm.fits,nj]
theorem SQ (t:Tm) (h:t.size<100) (hf:t.fit):qk (py++[ju t]) (ju (jt jr)):=⟨by simp[py],λx hx=>by
 rcases aU.1 hx with rfl|hx
 ·exact PO _ (by decide) Yh
 ·rcases a_.1 hx with hx|hx
  ·exact Ua x hx
  ·rw[aK.1 hx];exact PO t h hf⟩
set_option maxRecDepth 10000 in
theorem Yb7:az Tryz.prog 12 [] (.bool true):=by
 refine az.begin (rs:=[.tmp 0]) (m:=106) 1000 Tryz.func12 rfl rfl rfl (by decide) trivial ?_;have hv:=Qa 0 (by omega);rw[show Tm.mk (-1-0) []=iX from rfl]at hv
 have xI:az Tryz.prog 43 [.int .i64 1,.ps 2 []] jr.aH:=L4 1 [];simp only[go_sem];refine ak.bm [] hv (by simp only[go_sem]) ⟨trivial,trivial⟩ ?_;rw[eW];simp only[ite_self];refine aC.g ?_;simp only[go_sem,dO];refine ak.bm [] xI (by simp only[go_sem]) ⟨trivial,trivial,trivial⟩ ?_;rw[eW];simp only[ite_self];refine aC.g ?_;simp only[go_sem,dO];refine aC.draw [.no,⟨some 2,[2],[]⟩,⟨none,[2],[]⟩,⟨none,[],[2]⟩,.no,⟨some 3,[3],[]⟩] 2 4 mixed rfl rfl (by decide) ?_;simp only[go_sem,cM];have r0:iX.aH=.agg [.int .i64 iX.head,.ps 2 (List.map Tm.aH iX.args)]:=cq _;have r1:jr.aH=.agg [.int .i64 jr.head,.ps 2 (List.map Tm.aH jr.args)]:=cq _;refine Ad [2] (Ij iX) ?_ ⟨trivial,⟨cV _,trivial⟩,trivial⟩ (by rw[BL];simp[fw,iW,among,fG]) ?_
 ·simp only[go_sem,k_,lb,r0]
 rw[BL];simp only[go_sem,fw,iW,k_,lb,aX,if_false,dO];refine aC.g ?_;simp only[go_sem];refine aC.draw [⟨none,[],[4,5,6]⟩,⟨none,[],[5,6]⟩,⟨some 4,[4],[5,6]⟩,⟨none,[],[4,5,6]⟩,⟨none,[],[4,6]⟩,⟨some 5,[5],[4,6]⟩,⟨none,[5],[4,6]⟩,⟨none,[],[4,6]⟩,⟨none,[3,4],[6]⟩,⟨none,[],[6]⟩,⟨none,[],[6]⟩,⟨none,[],[6]⟩,⟨some 6,[6],[3,4,5]⟩,⟨none,[6],[]⟩] 4 7 mixed rfl rfl (by decide) ?_;simp only[go_sem,cM];refine jS PB (bL _ _ _) trivial ?_;simp only[go_sem];refine Ad [5] (Ij jr) ?_ ⟨trivial,⟨cV _,trivial⟩,trivial⟩ (by rw[BL];simp[fw,iW,among,fG]) ?_
 ·simp only[go_sem,k_,lb,r1]
 rw[BL];simp only[go_sem,fw,iW,k_,lb,aX,if_false,dO];refine jS (GC (jt jr)) (bL _ _ _) ⟨cV _,trivial⟩ ?_;simp only[go_sem];have hN:=Qc uN py (ju (jt jr)) (Yvv _ (by decide) Yh);rw[Ysh]at hN;have si:(⟨ju jr,[0],0, -1⟩:Si).aH=.agg [.ps 5 (lits (ju jr)),.ps 1 (ints [0]),.int .i64 0,.int .i64 (-1)]:=rfl;simp only[si]at hN;have ZL:bj (.dw [.agg [.ps 5 (lits (ju jr)),.ps 1 (ints [0]),.int .i64 0,.int .i64 (-1)],.int .i64 0])=false:=rfl;have eU:c9 py=[.ps 5 [.agg [.bool false,.int .i64 (jt iX).head,.ps 2 ((jt iX).args.map Tm.aH),.int .i64 iX.head,.ps 2 (iX.args.map Tm.aH)]]]:=rfl;refine Ad [3,4] hN ?_ ⟨cS _,eh _,bI _,trivial⟩ (by rw[ZL];simp[fw,iW,among,fG]) ?_
 ·simp only[go_sem,k_,lb,eU]
 rw[ZL];simp only[go_sem,fw,iW,k_,lb,aX,if_false,dO];refine aC.g ?_;simp only[go_sem];refine aC.draw [⟨none,[],[7,9]⟩,⟨none,[],[7,9]⟩,⟨none,[],[7,9]⟩,⟨none,[],[9]⟩,⟨some 7,[7],[9]⟩,⟨none,[7],[9]⟩,⟨none,[],[9]⟩,⟨some 8,[8],[9]⟩,⟨none,[],[7,8,9]⟩,⟨none,[],[7,8]⟩,⟨some 9,[9],[7,8]⟩,⟨none,[9],[8]⟩,⟨none,[],[8]⟩,⟨none,[3,8],[]⟩] 7 10 mixed rfl rfl (by decide) ?_;simp only[go_sem,cM];refine jS PB (bL _ _ _) trivial ?_;simp only[go_sem];refine Ad [7] (Ij iX) ?_ ⟨trivial,⟨cV _,trivial⟩,trivial⟩ (by rw[BL];simp[fw,iW,among,fG]) ?_
 ·simp only[go_sem,k_,lb,r0]
 rw[BL];simp only[go_sem,fw,iW,k_,lb,aX,if_false,dO];refine jS (GC (jt iX)) (bL _ _ _) ⟨cV _,trivial⟩ ?_;simp only[go_sem];refine Ad [9] (Ij jr) ?_ ⟨trivial,⟨cV _,trivial⟩,trivial⟩ (by rw[BL];simp[fw,iW,among,fG]) ?_
 ·simp only[go_sem,k_,lb,r1]
 rw[BL];simp only[go_sem,fw,iW,k_,lb,aX,if_false,dO];refine jS (GC (jt jr)) (bL _ _ _) ⟨cV _,trivial⟩ ?_;simp only[go_sem];have hN2:az Tryz.prog 11 [.ps 4 (syms uN),.ps 1 (c9 (py++[ju (jt iX)])),.ps 5 (lits (ju (jt jr)))] (.dw [.bool false,.int .i64 0]):=by
  have:=Nu uN (py++[ju (jt iX)]) (ju (jt jr)) (SQ _ (by decide) Iu.2.2.1);rw[Yra]at this;exact this
 have Mk:∀b:Bool,bj (.dw [.bool b,.int .i64 0])=true:=λ_=>rfl;have eU2:c9 (py++[ju (jt iX)])=[.ps 5 [.agg [.bool false,.int .i64 (jt iX).head,.ps 2 ((jt iX).args.map Tm.aH),.int .i64 iX.head,.ps 2 (iX.args.map Tm.aH)]],.ps 5 (lits (ju (jt iX)))]:=rfl;refine Ad [3,8] hN2 ?_ ⟨cS _,eh _,bI _,trivial⟩ (by rw[Mk,if_pos rfl];exact Cr _ _ _) ?_
 ·simp only[go_sem,k_,lb,eU2]
 rw[Mk,if_pos rfl,HQ];simp only[go_sem];refine aC.g ?_;simp only[go_sem];refine aC.draw [⟨none,[],[11]⟩,⟨none,[],[11]⟩,⟨none,[],[11]⟩,⟨none,[],[11]⟩,⟨none,[],[11]⟩,⟨some 10,[10],[11]⟩,⟨none,[],[10,11]⟩,⟨none,[],[10]⟩,⟨some 11,[11],[10]⟩,⟨none,[11],[10]⟩,⟨none,[],[10]⟩,⟨none,[3,10],[]⟩] 10 12 mixed rfl rfl (by decide) ?_;simp only[go_sem,cM];refine jS PB (bL _ _ _) trivial ?_;simp only[go_sem];refine jS (GC iX) (by rw[r0];exact bL _ _ _) ⟨cV _,trivial⟩ ?_;simp only[go_sem];refine Ad [11] (Ij jr) ?_ ⟨trivial,⟨cV _,trivial⟩,trivial⟩ (by rw[BL];simp[fw,iW,among,fG]) ?_
 ·simp only[go_sem,k_,lb,r1]
 rw[BL];simp only[go_sem,fw,iW,k_,lb,aX,if_false,dO];refine jS (GC (jt jr)) (bL _ _ _) ⟨cV _,trivial⟩ ?_;simp only[go_sem];have hN3:az Tryz.prog 11 [.ps 4 (syms uN),.ps 1 (c9 (py++[ju iX])),.ps 5 (lits (ju (jt jr)))] (.dw [.bool true,.int .i64 0]):=by
  have:=Nu uN (py++[ju iX]) (ju (jt jr)) (SQ _ (by decide) Iu.1);rw[Yv0]at this;exact this
 have eU3:c9 (py++[ju iX])=[.ps 5 [.agg [.bool false,.int .i64 (jt iX).head,.ps 2 ((jt iX).args.map Tm.aH),.int .i64 iX.head,.ps 2 (iX.args.map Tm.aH)]],.ps 5 (lits (ju iX))]:=rfl;refine Ad [3,10] hN3 ?_ ⟨cS _,eh _,bI _,trivial⟩ (by rw[Mk,if_pos rfl];exact Cr _ _ _) ?_
 ·simp only[go_sem,k_,lb,eU3]
 rw[Mk,if_pos rfl,HQ];simp only[go_sem];refine aC.g ?_;simp only[go_sem];have eM:zy (ju jr):=λl hl=>by
  rw[aK.1 hl];exact⟨by decide,by decide⟩
 have hE:=V7 (ju jr) (ju jr) eM eM (by decide);rw[(LH _ _).2 rfl]at hE;have hI:=TU [0] [0] (by decide);rw[decide_eq_true rfl]at hI;refine aC.draw [.no,.no,.no,.no,.no,.no,.no,.no,.no,.no,.no,⟨none,[],[12]⟩,⟨none,[],[12]⟩,⟨some 12,[12],[]⟩] 12 13 mixed rfl rfl (by decide) ?_;simp only[go_sem,cM];refine jS (GC jr) (by rw[r1];exact bL _ _ _) ⟨cV _,trivial⟩ ?_;simp only[go_sem];refine jS hE (bL _ _ _) ⟨bI _,bI _,trivial⟩ ?_;simp only[go_sem];have ZM:bj (.bool true)=true:=rfl;refine Ad [12] hI ?_ ⟨cY _,cY _,trivial⟩ (by rw[ZM,if_pos rfl];exact Cr _ _ _) ?_
 ·have e0:ints [0]=[.int .i64 0]:=rfl;simp only[go_sem,k_,lb,e0]
 rw[ZM,if_pos rfl,HQ];simp only[go_sem,beq_self_eq_true];refine aC.g ?_;simp only[go_sem]
theorem Ypa {g:List Sy}{es:List (List Li)}{c:List Li}(h:uU g es c=true):qw es=true/\rr c=true/\pE c=true/\(∀r∈es,pE r=true/\rr r=true):=by
 unfold uU at h;split at h
 ·cases h
 ·rename_i hb;simp only[aG]at h;obtain⟨⟨⟨h1,h2⟩,h3⟩,h4⟩:=h;refine⟨h2,h3,h4,λr hr=>?_⟩;have hn:¬re r=true:=λk=>hb ⟨(Ur h2).1,cP.2 ⟨r,hr,k⟩⟩;unfold re at hn;simpa using hn
theorem Ywy {g:List Sy}{d:List Li}(hd:iC g d):iC g (px d):=by
 obtain⟨h1,h2,h3⟩:=UL hd;rw[h3];exact Yzo h1 hd h2
end Go.Proofs
namespace Go.Proofs
open Go Go.dq
section
variable {r:Int->Int}{p:Int->Prop}
end
end Go.Proofs
