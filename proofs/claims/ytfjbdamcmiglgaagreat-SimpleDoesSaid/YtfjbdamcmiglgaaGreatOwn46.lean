/- Part 46 of what the claim rests on. -/
import Derived.Test.YtfjbdamcmiglgaaGreatOwn45
set_option linter.all false
abbrev l6:=@Bool.not_false
abbrev kx:=@Decidable.byContradiction
abbrev jP:=@Decidable.not_not
abbrev ta:=@List.find?_nil
abbrev jJ:=@List.mem_append_right
namespace Go.Proofs
open Go Go.dq
theorem Yuu (p:List Int)(t u v:Tm)(hp:p.length<=1000000)(ht:t.size<=1000000)(hv:t.mr p=some v):az Tryz.prog 205 [t.aH,.ps 1 (ints p),u.aH] (.dw [(t.jy p u).aH,.int .i64 0]):=by
 refine az.begin (rs:=[.cell 6 70,.tmp 7]) (m:=20) 1000 Tryz.func205 rfl rfl rfl (by decide) ⟨cV _,trivial,trivial⟩ ?_;have h1:=M6 p t hp (by omega);have h2:=T0 p t u v hp ht hv;rw[hv]at h1;generalize t.jy p u=z at *
 simp only[go_sem,dO];refine ak.bm [] (h1) (by(try simp only[cq]);exact bL _ _ _) (by simp[go_sem,cV,bC,cY]) ?_;rw[eW];simp only[ite_self];refine aC.g ?_
 simp only[go_sem,bd,oI,dO];refine ak.bm [] (h2) (by(try simp only[cq]);exact bL _ _ _) (by simp[go_sem,cV,bC,cY]) ?_;rw[eW];simp only[ite_self];refine aC.g ?_
 simp only[go_sem,dO];rw[cq];exact bL _ _ _
def ng (bs:List Bd)(v:Int):Tm:=((bs.find? λb=>b.v==v).map Bd.t).getD (.mk (-1-v) [])
theorem UI (bs:List Bd) (v:Int) (hv : -1000000<=v/\v<=1000000) (hl:bs.length<1000000):az Tryz.prog 175 [.ps 3 (dp bs),.int .i64 v] (ng bs v).aH:=by
 refine az.begin (rs:=[.cell 4 70]) (m:=24) 1000 Tryz.func175 rfl rfl rfl (by decide) (cV _) ?_;obtain⟨Z,hZ⟩:∃Z,ng bs v=Z:=⟨_,rfl⟩;rw[hZ];have F3:ng bs v=(((bs.drop 0).find? λb=>b.v==v).map Bd.t).getD (.mk (-1-v) []):=rfl;simp only[go_sem];refine aC.cA (ι:={i:Nat // i<=bs.length/\(((bs.drop i).find? λb=>b.v==v).map Bd.t).getD (.mk (-1-v) [])=Z}) 1000 (λq=>dV 26 [(0,.ps 3 (dp bs)),(1,.int .i64 v),(4,.ptr 0 0),(5,.int .i64 q.1)])
  (λ_=>[some (.var [.int .i64 0,.a8])]) (λq=>bs.length-q.1) ⟨0,aj _,by rw[<-F3];exact hZ⟩ ?_ (λ_=>by simp) ?_
 ·simp only[go_sem]
 ·rintro ⟨i,hi,aD⟩;by_cases bx:(i:Int)<bs.length
  ·have aL:i<bs.length:=by omega
   have hw:=W1' i (by omega)
   have g1:=LY aL;rw[ai aL,iN]at aD;generalize bs[i]=b at *
   by_cases e:b.v=v
   ·have e2:(b.v==v)=true:=by simp[e]
    rw[e2]at aD;simp only[bD,bd]at aD;subst aD;have e':=eq_true e;simp only[go_sem,q_,bx,g1,Cw,e']
    (repeat((with_reducible refine And.intro ?_ ?_);·omega))
    refine aC.g ?_;simp only[go_sem];rw[cq];exact nH _ _ _
   ·have e2:(b.v==v)=false:=by simp[e]
    rw[e2]at aD;simp only[go_sem,q_,bx,g1,Cw,e,hw]
    (repeat((with_reducible refine And.intro ?_ ?_);·omega))
    refine⟨⟨i+1,by omega,aD⟩,?_,by simp only;omega⟩;simp only[go_sem]
  ·have dm:i=bs.length:=by omega
   subst dm;rw[aJ]at aD;simp only[ta,lz,dD]at aD;subst aD;have Ep:=Qa v hv;simp only[go_sem,q_,bx];refine aC.g ?_;simp only[go_sem];refine ak.bm [] (Ep) (bL _ _ _) (by simp[go_sem,cV]) ?_;rw[eW];simp only[ite_self];refine aC.g ?_;simp only[go_sem,dO];rw[cq];exact bL _ _ _
mutual
def Tm.pd (bs:List Bd):Tm->Tm
 |.mk h ts=>if h<0 then ng bs (-1-h) else .mk h (Tm.Ch bs ts)
def Tm.Ch (bs:List Bd):List Tm->List Tm
 |[]=>[]
 |t :: ts=>t.pd bs :: Tm.Ch bs ts
end
theorem TN (bs:List Bd):∀ts,Tm.Ch bs ts=ts.map (Tm.pd bs)
 |[]=>rfl
 |t :: ts=>by simp[Tm.Ch,TN bs ts]
theorem zE {t:Tm}(h:t.good=true): -256<=t.head/\t.head<=1023/\t.args.length<=8/\(t.head<0->t.args=[]):=by
 obtain⟨k,ts⟩:=t;rw[Tm.good]at h;simp only[aG,bX,cZ,decide_eq_false_iff_not,dM]at h;simp only[Tm.head,Tm.args];refine⟨by omega,by omega,by omega,λhn=>?_⟩;rcases h.1.1.1.1 with h1|h1
 ·exact absurd hn h1
 ·exact bn (by omega)
theorem Yc:∀ {ts:List Tm},Tm.fy ts=true->∀t∈ts,t.good=true
 |x :: ts,h,t,ht=>by
  rw[Tm.fy,aG]at h;rcases aU.1 ht with rfl|ht
  ·exact h.1
  ·exact Yc h.2 t ht
theorem zD {t:Tm}(h:t.good=true):∀u∈t.args,u.good=true:=by
 obtain⟨k,ts⟩:=t;rw[Tm.good,aG]at h;exact Yc h.2
theorem LK (bs:List Bd) (hl:bs.length<1000000) (t:Tm):t.good=true->t.size<=1000000->az Tryz.prog 147 [.ps 3 (dp bs),t.aH] (t.pd bs).aH:=by
 induction t using Tm.fF with
 |h h ts ih =>
 intro hg hs;obtain⟨g1,g2,g3,g4⟩:=zE hg;have oA:=zD hg;simp only[Tm.head,Tm.args]at g1 g2 g3 g4 oA;have eM:(Tm.mk h ts).size=1+Tm.bw ts:=rfl;refine az.begin (rs:=[.cell 4 70]) (m:=36) 1000 Tryz.func147 rfl rfl rfl (by decide) (cV _) ?_;have ha:=(yp h ts).symm;rw[Tm.pd];by_cases dP:h<0
 ·rw[if_pos dP];have hw:IntKind.i64.wrap (-1-h) = -1-h:=dt (by omega);have JL:=UI bs (-1-h) (by omega) hl;generalize ng bs (-1-h)=z at *
  simp only[go_sem,ha,dP,hw];refine ak.bm [] JL (bL _ _ _) ⟨of_eq_true (nq _),trivial,trivial⟩ ?_;rw[eW];simp only[ite_self];refine aC.g ?_;simp only[go_sem,dO];rw[cq];exact nH _ _ _
 ·rw [if_neg dP,TN];rw[<-yp];simp only[go_sem,ha,dP];refine aC.ep (ι:={i:Nat // i<=ts.length}) 1000 (λq=>dV 38 [(0,.ps 3 (dp bs)),(3,.ptr 0 0),(4,.ptr 1 0),(5,.ptr 2 0),(6,.int .i64 q.1)])
   (λq=>[some (.var [.int .i64 h,.ps 2 (ts.map Tm.aH)]),some (.var [.int .i64 0,.a8]),some (.var [.int .i64 h,eR 3 2 (((ts.take q.1).map (Tm.pd bs)).map Tm.aH)]),cX (((ts.take q.1).map (Tm.pd bs)).map Tm.aH)]) (λq=>ts.length-q.1) ⟨0,aj _⟩ [] ?_ (λ_=>by simp) ?_
  ·refine eL rfl ?_;simp only[go_sem,aR,jh,pU,pC,bC,bT (bC _),bT (of_eq_true (nq bs))]
  ·rintro ⟨i,hi⟩;by_cases bx:(i:Int)<ts.length
   ·have aL:i<ts.length:=by omega
    have hw:=W1' i (by omega)
    have zd:(ts.map Tm.aH).getD i .undef=ts[i].aH:=jT aL;have MI:=sn ts i aL;have hc:=ih i aL (oA _ (ay aL)) (by omega);have rD:(ts.take (i+1)).map (Tm.pd bs)=(ts.take i).map (Tm.pd bs)++[ts[i].pd bs]:=by
     rw[cx,ax aL,dx,cf];rfl
    have ME:((ts.take i).map (Tm.pd bs)).length<=i:=by rw[ao,bN];omega
    generalize ts[i]=x at *
    generalize x.pd bs=z at *
    generalize hq:(ts.take i).map (Tm.pd bs)=q at *
    have hR:eE ⟨2,true,32,[.int .i64 0,.a8],.struct⟩ [z.aH]:=of_eq_true (BO [z]);simp only[go_sem,bx,hq];refine aC.draw [⟨none,[],[4]⟩,⟨none,[],[4]⟩,.no,.no,.no,.no,.no,.no,.no,⟨some 4,[4],[]⟩,⟨some 5,[3,5],[]⟩,.no,⟨none,[2],[]⟩] 4 6 mixed rfl rfl (by decide) ?_;simp only[go_sem,cM,zd,dO,bx]
    (repeat((with_reducible refine And.intro ?_ ?_);·omega))
    refine jS hc (by(try simp only[cq]);exact bL _ _ _) ⟨of_eq_true (nq _),cV _,trivial⟩ ?_
    have h3:bW [some (bS.var [.int .i64 h,.ps 2 (ts.map Tm.aH)]),some (bS.var [.int .i64 0,.a8]),some (bS.var [.int .i64 h,eR 3 2 (q.map Tm.aH)]),cX (q.map Tm.aH),some (.row [z.aH] 0),none] 3=cX (q.map Tm.aH):=rfl;have pI:List.take 1 [z.aH]=[z.aH]:=rfl;simp only[go_sem,qg h3,hR,pI,dO]
    (repeat((with_reducible refine And.intro ?_ ?_);·omega))
    refine aC.g ?_;simp only[go_sem];refine⟨⟨i+1,aL⟩,[(3,5),(5,3)],eL rfl ?_,by simp only;omega⟩;simp only[rD];have lw:bG 0 ((q++[z]).map Tm.aH):=bC _;rw[cf,aI,aR]at lw ⊢;rw[qP (by simp),qQ (by simp)];simp only[go_sem,hw,bC,bT (bC _),bT (of_eq_true (nq bs)),bT lw,iD (aj _) lw]
   ·have dm:i=ts.length:=by omega
    subst dm;rw[bQ];simp only[go_sem,bx];refine aC.g ?_;simp only[go_sem,nI]
mutual
def gI:Tm->Tm->List Bd->List Bd×Bool
 |.mk h ts,u,s=>if h<0 then (match s.find? (λb=>b.v == -1-h) with|some b=>(s,decide (b.t=u)) | none=>(s++[⟨-1-h,u⟩],true))
  else if h≠u.head\/ts.length≠u.args.length then (s,false) else ei ts u.args s
def ei:List Tm->List Tm->List Bd->List Bd×Bool
 |[],_,s=>(s,true)
 |_ :: _,[],s=>(s,true)
 |t :: ts,u :: us,s=>if (gI t u s).2=true then ei ts us (gI t u s).1 else (s,false)
end
@[go_sem]theorem E1 (l:List Bd):eE ⟨3,true,40,[.int .i64 0,.int .i64 0,.a8],.struct⟩ (dp l)=True:=eq_true (by
 refine⟨λx hx=>?_,by decide,by decide,rfl⟩;obtain⟨t,_,rfl⟩:=cN.1 hx;exact⟨rfl,rfl⟩)
theorem EZ (a b:List Bd):dp (a++b)=dp a++dp b:=by simp[dp]
mutual
theorem LC:∀(t u:Tm) (s:List Bd),(gI t u s).1.length<=s.length+t.size
 | .mk h ts,u,s=>by
  rw[gI,Tm.size];split
  ·split
   ·simp only;omega
   ·simp only[aA,aq,aF];omega
  ·split
   ·simp only;omega
   ·have:=K0 ts u.args s;omega
theorem K0:∀(ts us:List Tm) (s:List Bd),(ei ts us s).1.length<=s.length+Tm.bw ts
 |[],_,s=>by rw[ei];simp[Tm.bw]
 |_ :: _,[],s=>by rw[ei];simp
 |t :: ts,u :: us,s=>by
  rw[ei,Tm.bw];split
  ·have:=LC t u s;have:=K0 ts us (gI t u s).1;omega
  ·simp only;omega
end
mutual
theorem Ii {P:Tm->Prop} (hP:∀t,P t->∀u∈t.args,P u):∀(t u:Tm) (s:List Bd),P u->(∀b∈s,P b.t)->∀b∈(gI t u s).1,P b.t
 | .mk h ts,u,s,hu,hs=>by
  rw[gI];split
  ·split
   ·exact hs
   ·intro b hb;rcases a_.1 hb with hb|hb
    ·exact hs b hb
    ·rw[aK.1 hb];exact hu
  ·split
   ·exact hs
   ·exact K6 hP ts u.args s (hP u hu) hs
theorem K6 {P:Tm->Prop} (hP:∀t,P t->∀u∈t.args,P u):∀(ts us:List Tm) (s:List Bd),(∀u∈us,P u)->(∀b∈s,P b.t)->∀b∈(ei ts us s).1,P b.t
 |[],_,s,_,hs=>by rw[ei];exact hs
 |_ :: _,[],s,_,hs=>by rw[ei];exact hs
 |t :: ts,u :: us,s,hu,hs=>by
  rw[ei];have h1:=Ii hP t u s (hu u (by simp)) hs;split
  ·exact K6 hP ts us _ (λx hx=>hu x (by simp[hx])) h1
  ·exact hs
end
theorem KM:∀t:Tm,t.size<1000000->∀u∈t.args,u.size<1000000:=λt h u hu=>by
 have h1:=sO hu;have h2:=n9 t;omega
def CY (s:List Bd)(z:List Bd×Bool)(r:ah)(σ':av):Prop :=
 (z.2=true/\r=.dw [eR 0 3 (dp z.1),.bool true]/\σ'=[cX (dp z.1)]/\z.1=s)\/(z.2=true/\r=.dw [eR 4 3 (dp z.1),.bool true]/\σ'=[none,none,none,none,cX (dp z.1)]) \/
 (z.2=false/\∃b l,r=.dw [eR b 3 (dp l),.bool false]/\b < σ'.length/\bH σ'.length σ')
theorem Wv:∀(n:Nat) (S:av),n<=S.length->ic (List.replicate n none) S
 |0,S,_=>by simp[ic]
 |n+1,[],h=>by simp at h
 |n+1,b :: S,h=>by rw[eS,XM];exact Wv n S (by simpa using h)
theorem NI (m:Nat):∀n:Nat,bH m (List.replicate n none)
 |0=>trivial
 |n+1=>by rw[eS,NR];exact NI m n
theorem Mb {s s':List Bd}{z:List Bd×Bool}{a:Nat}{S:av}(h:z.2=false)(ha:a<S.length):mI (CY s z) 1 (.dw [eR a 3 (dp s'),.bool false]) S:=by
 rw[gy];refine⟨List.replicate (a+1) none,Wv _ _ ha,by simp,?_,?_,.inr (.inr ⟨h,a,s',rfl,by simp,?_⟩)⟩
 ·exact NI _ _
 ·simp[go_sem,um]
 ·exact NI _ _
theorem PI {n:Nat}(s:List Bd):bH n [cX (dp s)]:=by simp[go_sem]
theorem Yc1 (h:Int) (ts:List Tm) (u:Tm) (s:List Bd) (dP:h<0) (hh : -1000000<=h) (hu:u.size<1000000) (hs:s.length<1000000) (eM:∀b∈s,b.t.size<1000000) :
  ak Tryz.prog (.fn 206 [] []) [(Tm.mk h ts).aH,u.aH,eR 0 3 (dp s)] [cX (dp s)] (CY s (gI (.mk h ts) u s)):=by
 refine ak.begin (rs:=[.tmp 6,.tmp 7]) (m:=85) 1000 Tryz.func206 rfl rfl rfl rfl rfl ?_;have ha:=(yp h ts).symm;have hw:IntKind.i64.wrap (-1-h) = -1-h:=dt (by omega);rw[gI,if_pos dP];obtain⟨F,hF⟩:∃F,s.find? (λb=>b.v == -1-h)=F:=⟨_,rfl⟩;rw[hF];simp only[go_sem,ha,dO,dP];refine aC.cA (ι:={i:Nat // i<=s.length/\(s.drop i).find? (λb=>b.v == -1-h)=F}) 1000 (λq=>dV 88 [(2,eR 0 3 (dp s)),(3,.ptr 1 0),(4,.ptr 2 0),(6,.a8),(7,.bool false),(8,.int .i64 q.1)])
  (λ_=>[cX (dp s),some (.var [.int .i64 h,.ps 2 (ts.map Tm.aH)]),some (.var [.int .i64 u.head,.ps 2 (u.args.map Tm.aH)])]) (λq=>s.length-q.1) ⟨0,aj _,hF⟩ ?_ (λ_=>by simp) ?_
 ·simp only[go_sem,bC]
 ·rintro ⟨i,hi,aD⟩;by_cases bx:(i:Int)<s.length
  ·have aL:i<s.length:=by omega
   have lE:=W1' i (by omega)
   have dL:dp s≠[]:=by intro e;rw[<-q_,e]at aL;simp at aL
   have g1:=LY aL;have hb:=eM _ (ay aL);rw[ai aL,iN]at aD;generalize s[i]=b at *
   simp only[go_sem,vY dL,vA dL,q_,bx];refine aC.draw [] 3 3 mixed rfl rfl (by decide) ?_;simp only[go_sem,cM,vY dL,vA dL,q_,bx,g1,Cw,hw]
   (repeat((with_reducible refine And.intro ?_ ?_);·omega))
   refine aC.g ?_;by_cases e:b.v = -1-h
   ·have e2:(b.v == -1-h)=true:=by simp[e]
    rw[e2]at aD;subst aD;have e':=eq_true e;simp only[go_sem,e'];refine aC.draw [] 3 3 mixed rfl rfl (by decide) ?_;simp only[go_sem,cM,vY dL,vA dL,q_,bx,g1,Cw,hw,dO]
    (repeat((with_reducible refine And.intro ?_ ?_);·omega))
    refine jS (BP b.t u (by omega) (by omega)) (by(try simp only[cq]);exact bL _ _ _) (by simp[go_sem,cV,bC]) ?_
    simp only[go_sem];refine aC.g ?_;simp only[go_sem];refine aC.g ?_;simp only[go_sem];by_cases Z_:b.t=u
    ·rw[decide_eq_true Z_,gy];refine⟨[cX (dp s)],?_,by simp,PI s,by simp[go_sem,vA dL],.inl ⟨rfl,?_,rfl,rfl⟩⟩
     ·simp[vA dL,ic]
     ·rw[vY dL,q_]
    ·rw[decide_eq_false Z_];have:=Mb (s:=s) (s':=s) (z:=(s,false)) (a:=0) (S:=[some (bS.row (dp s) 0),some (bS.var [.int .i64 h,.ps 2 (ts.map Tm.aH)]),some (bS.var [.int .i64 u.head,.ps 2 (u.args.map Tm.aH)])]) rfl (by simp);rw[vY dL,q_]at this;exact this
   ·have e2:(b.v == -1-h)=false:=by simp[e]
    rw[e2]at aD;have e':=eq_false e;simp only[go_sem,e',lE,vY dL,vA dL,q_];refine⟨⟨i+1,by omega,aD⟩,?_,by simp only;omega⟩;simp only[go_sem,vY dL,vA dL,q_,bC]
  ·have dm:i=s.length:=by omega
   subst dm;rw[aJ,ta]at aD;subst aD;have ho:=of_eq_true (E1 [⟨-1-h,u⟩]);have e1:dp [(⟨-1-h,u⟩:Bd)]=[.agg [.int .i64 (-1-h),.int .i64 u.head,.ps 2 (u.args.map Tm.aH)]]:=rfl;rw[e1]at ho;have lw:=of_eq_true (nq (n:=0) (s++[⟨-1-h,u⟩]));rw[EZ,e1]at lw;simp only[go_sem,Pa,q_,bx];refine aC.g ?_;simp only[go_sem,hw,qg,ho,q_];refine⟨by omega,?_⟩;rw[gy];refine⟨[none,none,none,none,cX (dp (s++[⟨-1-h,u⟩]))],?_,by simp,?_,?_,.inr (.inl ⟨rfl,?_,rfl⟩)⟩
   ·rw[EZ,e1,qQ (by simp)];simp[ic]
   ·simp[go_sem]
   ·simp[go_sem]
   ·rw[EZ,e1,qP (by simp),q_];rfl
def vR (i:Nat)(R bp bt:Option bS):av:=if i=0 then [R,none,none,none,none,bp,bt] else [none,none,none,none,R,bp,bt]
theorem HI (i:Nat) (hi:i=0\/i=4) (bp bt:Option bS) (x y:Tm) (s:List Bd) (z:List Bd×Bool) {K:ah->av->Prop}
  (h:ak Tryz.prog (.fn 206 [] []) [x.aH,y.aH,eR 0 3 (dp s)] [cX (dp s)] (CY s z))
  (h1:z.2=true->z.1=s->K (.dw [eR i 3 (dp z.1),.bool true]) (vR i (cX (dp z.1)) bp bt)) (h2:z.2=true->K (.dw [eR 10 3 (dp z.1),.bool true]) [none,none,none,none,none,bp,bt,none,none,none,cX (dp z.1)])
  (h3:z.2=false->∀b l S,7<=S.length->K (.dw [eR b 3 (dp l),.bool false]) S) :
  ak Tryz.prog (.fn 206 [] []) [x.aH,y.aH,eR i 3 (dp s)] (vR i (cX (dp s)) bp bt) K:=by
 have hl:(vR i (cX (dp s)) bp bt).length=7:=by unfold vR;split<;>rfl
 have xm:∀(l:List Bd) (π:Nat->Nat),(cX (dp l)).map (eo π)=cX (dp l):=λl π=>by
  cases hb:dp l with
  |nil=>rfl
  |cons a t =>
   have lw:=of_eq_true (nq (n:=0) l);rw[hb]at lw;rw[BR,bD,xv,bT lw]
 have hs:∀b,b<1->b=0:=λb hb=>by omega
 have fc:(vR i (cX (dp s)) bp bt)[i]? = some (cX (dp s)):=by rcases hi with rfl|rfl<;>rfl
 refine ak.kI (Z:=[cX (dp s)]) (f:=.fn 206 [] []) (args:=[x.aH,y.aH,eR 0 3 (dp s)]) (λ_=>i) (λb b' h1 h2 e=>by rw[hs b h1,hs b' h2]) (λb hb=>by rw[hl];omega) (λb hb=>?_) (by simp[go_sem]) rfl ⟨cV _,cV _,um (by simp) _ _,trivial⟩ ?_ (by simp[go_sem]) h ?_
 ·have:b=0:=hs b hb;subst this;exact⟨cX (dp s),rfl,by rw[fc,xm]⟩
 ·simp only[eC,zJ (H_ _),yZ]
 rintro r Z' (⟨hz,rfl,rfl,e⟩|⟨hz,rfl,rfl⟩|⟨hz,b,l,rfl,hb,iG⟩)
 ·refine ⟨by simp,by simp[go_sem],by simp[go_sem],?_⟩;have he:ix (λ_=>i) [cX (dp s)].length [cX (dp z.1)] (vR i (cX (dp s)) bp bt)=vR i (cX (dp z.1)) bp bt:=by
   rw[e];unfold vR;rcases hi with rfl|rfl<;>simp[ix,eQ,lX,xm]
  rw[he];simp only[ez,eC,yZ,lX];exact h1 hz e
 ·refine ⟨by simp,by simp[go_sem],by simp[go_sem],?_⟩;have he:ix (λ_=>i) [cX (dp s)].length [none,none,none,none,cX (dp z.1)] (vR i (cX (dp s)) bp bt)=[none,none,none,none,none,bp,bt,none,none,none,cX (dp z.1)]:=by
   unfold vR;rcases hi with rfl|rfl<;>simp[ix,eQ,lX,xm]
  rw[he];have e10:lX (λ_=>i) 1 7 4=10:=rfl;simp only[ez,eC,yZ,hl,aq,aF,br,e10];exact h2 hz
 ·refine⟨by simp only[aq,aF];omega,iG,by simp[go_sem,um hb],?_⟩;simp only[ez,eC,yZ];exact h3 hz _ _ _ (by rw[DU (by simp only[aq,aF];omega),hl];omega)
theorem N9:∀(n:Nat) (h:Int) (ts:List Tm) (u:Tm) (s:List Bd),Tm.bw ts<n->(Tm.mk h ts).good=true->u.size<1000000->s.length+(1+Tm.bw ts)<1000000->(∀b∈s,b.t.size<1000000) ->
  ak Tryz.prog (.fn 206 [] []) [(Tm.mk h ts).aH,u.aH,eR 0 3 (dp s)] [cX (dp s)] (CY s (gI (.mk h ts) u s))
 |0,_,_,_,_,hn,_,_,_,_=>by omega
 | n+1,h,ts,u,s,hn,hg,hu,hs,eM=>by
  obtain⟨g1,g2,g3,g4⟩:=zE hg;have oA:=zD hg;simp only[Tm.head,Tm.args]at g1 g2 g3 g4 oA;by_cases dP:h<0
  ·exact Yc1 h ts u s dP (by omega) hu (by omega) eM
  obtain⟨k,us,rfl⟩:∃k us,u=Tm.mk k us:=⟨u.head,u.args,by cases u;rfl⟩;have ha:=(yp h ts).symm;have hb:=(yp k us).symm;have Hv:(Tm.mk k us).size=1+Tm.bw us:=rfl;have zi:=mH ts;have apY:=mH us;refine ak.iq (rs:=[.tmp 6,.tmp 7]) (m:=85) Tryz.func206 rfl rfl rfl rfl rfl ?_;have qy:(h≠k\/ts.length≠us.length)->gI (.mk h ts) (.mk k us) s=(s,false):=λe=>by
   rw[gI,if_neg dP];exact if_pos e
  have wQ:h=k->ts.length=us.length->gI (.mk h ts) (.mk k us) s=ei ts us s:=λe1 e2=>by
   rw[gI,if_neg dP];exact if_neg (by simp[Tm.head,Tm.args,e1,e2])
  have hend:∀(B1 B2:Option bS),mI (CY s (s,false)) 1 (.dw [eR 0 3 (dp s),.bool false]) [cX (dp s),B1,B2]:=λB1 B2=>Mb rfl (by simp);by_cases c1:h=k
  ·subst c1;by_cases c2:(ts.length:Int)=us.length
   ·rw [wQ rfl (by omega)];refine aC.pad 4 (by simp) (by simp[go_sem,cV]) (PI s) ?_;refine aC.g ?_;obtain⟨Z,hZ⟩:∃Z,ei ts us s=Z:=⟨_,rfl⟩;rw[hZ];simp only[go_sem,ha,hb,dP,c2];refine aC.ep (ι:={q:Nat×List Bd×Nat // q.1<=ts.length/\(q.2.2=0/\q.2.1=s\/q.2.2=4)/\ei (ts.drop q.1) (us.drop q.1) q.2.1=Z/\q.2.1.length<=s.length+Tm.bw (ts.take q.1)/\∀b∈q.2.1,b.t.size<1000000}) 1000
     (λq=>dV 88 [(2,eR q.1.2.2 3 (dp q.1.2.1)),(3,.ptr 5 0),(4,.ptr 6 0),(6,.a8),(7,.bool false),(9,.int .i64 q.1.1)])
     (λq=>vR q.1.2.2 (cX (dp q.1.2.1)) (some (.var [.int .i64 h,.ps 2 (ts.map Tm.aH)])) (some (.var [.int .i64 h,.ps 2 (us.map Tm.aH)]))) (λq=>ts.length-q.1.1)
     ⟨(0,s,0),by omega,.inl ⟨rfl,rfl⟩,by simpa using hZ,bV _ _,eM⟩ [] ?_ (λ_=>by unfold vR;split<;>simp) ?_
    ·refine eL rfl ?_;unfold vR;simp only[go_sem,bC,bT (bC _)]
    ·rintro ⟨⟨i,s',a⟩,hi,uV,aD,u0,qb⟩;simp only at hi uV aD u0 qb;by_cases bx:(i:Int)<ts.length
     ·have aL:i<ts.length:=by omega
      have nQ:i<us.length:=by omega
      have oR:(i:Int)<us.length:=by omega
      have hw:=W1' i (by omega)
      have D5:(ts.map Tm.aH).getD i .undef=ts[i].aH:=jT aL;have He:(us.map Tm.aH).getD i .undef=us[i].aH:=jT nQ;have z1:=sn ts i aL;have z2:=sn us i nQ;have rD:=zC ts i aL;have gE:=yj ts (i+1);have FA:=oA _ (ay aL);rw[ai aL,ai nQ,ei]at aD;generalize ts[i]=x at *
      generalize us[i]=y at *
      have uJ:=n9 x;have pq:ak Tryz.prog (.fn 206 [] []) [x.aH,y.aH,eR 0 3 (dp s')] [cX (dp s')] (CY s' (gI x y s')):=by
       obtain⟨h2,Ki⟩:=x;exact N9 n h2 Ki y s' (by simp only[Tm.args]at uJ;omega) FA (by omega) (by simp only[Tm.args]at uJ;omega) qb
      have wS:=LC x y s';have wZ:∀b∈(gI x y s').1,b.t.size<1000000:=Ii (P:=λt=>t.size<1000000) KM x y s' (by omega) qb;generalize gI x y s'=z at *
      have yu:∀(a':Nat),(a'=0/\z.1=s\/a'=4)->z.2=true->(i+1<=ts.length/\(a'=0/\z.1=s\/a'=4)/\ei (ts.drop (i+1)) (us.drop (i+1)) z.1=Z/\z.1.length<=s.length+Tm.bw (ts.take (i+1))/\∀b∈z.1,b.t.size<1000000):=λa' h1 h2=>by
       rw[h2,if_pos rfl]at aD;exact⟨aL,h1,aD,by omega,wZ⟩
      rcases uV with⟨rfl,rfl⟩|rfl
      ·unfold vR;simp only[go_sem,bx];refine aC.oN [] 7 7 mixed rfl rfl (by decide) 11 rfl rfl rfl rfl ?_;simp only[go_sem,cM,D5,He,dO,bx,oR]
       (repeat((with_reducible refine And.intro ?_ ?_);·omega))
       refine aC.g ?_;simp only[go_sem];refine L6 rfl ?_;simp only[go_sem];rw[<-cq x,<-cq y];refine HI 0 (.inl rfl) _ _ x y s' z pq (λe1 e2 _=>?_) (λe1 _=>?_) (λe1 b l S hS _=>?_)
       ·unfold vR;simp only[go_sem,e1];refine aC.g ?_;simp only[go_sem,hw];refine⟨⟨(i+1,z.1,0),yu 0 (.inl ⟨rfl,e2⟩) e1⟩,[],eL rfl ?_,by simp only;omega⟩;simp only[go_sem,hw,bC,bT (bC _)]
       ·simp only[go_sem,e1];refine aC.g ?_;simp only[go_sem,hw];refine⟨⟨(i+1,z.1,4),yu 4 (.inr rfl) e1⟩,[(4,10),(10,4)],eL rfl ?_,by simp only;omega⟩;simp only[go_sem,hw,bC,bT (bC _)]
       ·rw[e1,if_neg (by simp)]at aD;subst aD;simp only[go_sem,e1];refine aC.g ?_;simp only[go_sem];refine aC.g ?_;simp only[go_sem];exact Mb rfl (by omega)
      ·unfold vR;simp only[go_sem,bx];refine aC.oN [] 7 7 mixed rfl rfl (by decide) 11 rfl rfl rfl rfl ?_;simp only[go_sem,cM,D5,He,dO,bx,oR]
       (repeat((with_reducible refine And.intro ?_ ?_);·omega))
       refine aC.g ?_;simp only[go_sem];refine L6 rfl ?_;simp only[go_sem];rw[<-cq x,<-cq y];refine HI 4 (.inr rfl) _ _ x y s' z pq (λe1 e2 _=>?_) (λe1 _=>?_) (λe1 b l S hS _=>?_)
       ·unfold vR;simp only[go_sem,e1];refine aC.g ?_;simp only[go_sem,hw];refine⟨⟨(i+1,z.1,4),yu 4 (.inr rfl) e1⟩,[],eL rfl ?_,by simp only;omega⟩;simp only[go_sem,hw,bC,bT (bC _)]
       ·simp only[go_sem,e1];refine aC.g ?_;simp only[go_sem,hw];refine⟨⟨(i+1,z.1,4),yu 4 (.inr rfl) e1⟩,[(4,10),(10,4)],eL rfl ?_,by simp only;omega⟩;simp only[go_sem,hw,bC,bT (bC _)]
       ·rw[e1,if_neg (by simp)]at aD;subst aD;simp only[go_sem,e1];refine aC.g ?_;simp only[go_sem];refine aC.g ?_;simp only[go_sem];exact Mb rfl (by omega)
     ·have dm:i=ts.length:=by omega
      subst dm;rw[aJ,ei]at aD;subst aD;rcases uV with⟨rfl,rfl⟩|rfl
      ·unfold vR;simp only[go_sem,bx];refine aC.g ?_;simp only[go_sem];rw[gy];exact⟨[cX (dp s')],by simp[ic],by simp,PI s',by simp[go_sem],.inl ⟨rfl,rfl,rfl,rfl⟩⟩
      ·unfold vR;simp only[go_sem,bx];refine aC.g ?_;simp only[go_sem];rw[gy];exact⟨[none,none,none,none,cX (dp s')],by simp[ic],by simp,by simp[go_sem],by simp[go_sem],.inr (.inl ⟨rfl,rfl,rfl⟩)⟩
   ·rw[qy (.inr (by omega))];refine aC.g ?_;simp only[go_sem,ha,hb,dP,c2];exact hend _ _
  ·rw[qy (.inl c1)];refine aC.g ?_;simp only[go_sem,ha,hb,dP,c1];exact hend _ _
theorem Yi3 (t:Tm)(h:t.size<1000000):az Tryz.prog 146 [t.aH] (.bool (decide (t.check=0))):=by
 refine az.begin (rs:=[.tmp 2]) (m:=5) 1000 Tryz.func146 rfl rfl rfl (by decide) trivial ?_;have hc:=Y_ t (by omega);simp only[go_sem,dO];refine ak.bm [] (hc) (by(try simp only[cq]);exact bL _ _ _) (by simp[go_sem,cV,bC]) ?_;simp only[bj,bA,bz,if_true];refine aC.g ?_
 simp only[go_sem]
def lF (l:List Tm):Bool:=l.all λt=>decide (t.check=0)
theorem LI (l:List Tm) (h:∀t∈l,t.size<1000000) (hl:l.length<1000000):az Tryz.prog 116 [.ps 2 (l.map Tm.aH)] (.bool (lF l)):=by
 refine az.begin (rs:=[.tmp 2]) (m:=15) 1000 Tryz.func116 rfl rfl rfl (by decide) trivial ?_;obtain⟨Z,hZ⟩:∃Z,lF l=Z:=⟨_,rfl⟩;rw[hZ];simp only[go_sem];refine aC.cA (ι:={i:Nat // i<=l.length/\lF (l.drop i)=Z}) 1000 (λq=>dV 16 [(0,.ps 2 (l.map Tm.aH)),(2,.bool false),(3,.int .i64 q.1)]) (λ_=>[]) (λq=>l.length-q.1) ⟨0,aj _,hZ⟩ ?_ (λ_=>aj _) ?_
 ·simp only[go_sem,bC]
 ·rintro⟨i,hi,aD⟩;by_cases bx:(i:Int)<l.length
  ·have aL:i<l.length:=by omega
   have hw:=W1' i (by omega)
   have g1:(l.map Tm.aH).getD i .undef=l[i].aH:=jT aL;have hc:=Yi3 l[i] (h _ (ay aL));rw[ai aL,lF,h_]at aD;generalize l[i]=x at *
   simp only[go_sem,bx,g1,dO]
   (repeat((with_reducible refine And.intro ?_ ?_);·omega))
   refine ak.bm [] (hc) (by(try simp only[cq]);exact bL _ _ _) (by simp[go_sem,cV,bC]) ?_;simp only[bj,bA,bz,if_true];refine aC.g ?_
   by_cases e:x.check=0
   ·rw[decide_eq_true e,bO]at aD;simp only[go_sem,e,hw];refine⟨⟨i+1,by omega,aD⟩,?_,by simp only;omega⟩;simp only[go_sem,bC]
   ·rw[decide_eq_false e,bU]at aD;subst aD;simp only[go_sem,e];refine aC.g ?_;simp only[go_sem]
  ·have dm:i=l.length:=by omega
   subst dm;rw[aJ]at aD;have aD:true=Z:=aD;subst aD;simp only[go_sem,bx];refine aC.g ?_;simp only[go_sem]
def ot (p t:List Tm):List Bd×Bool:=if (ei p t []).2=true then ei p t [] else ([],false)
theorem Nw (p t:List Tm) (Em:p.length=t.length) (hp:Tm.bw p<100000) (ht:Tm.bw t<100000) (hg:∀x∈p,x.good=true) :
  az Tryz.prog 182 [.ps 2 (p.map Tm.aH),.ps 2 (t.map Tm.aH),.a8] (.dw [.ps 3 (dp (ot p t).1),.bool (ot p t).2]):=by
 refine az.iq (rs:=[.tmp 6,.tmp 7]) (m:=31) Tryz.func182 rfl rfl rfl (by decide) ⟨of_eq_true (nq _),trivial,trivial⟩ ?_;have tE:=mH p;have zi:=mH t;refine aC.pad 1 (ae _) (by simp[go_sem,bC]) trivial ?_;obtain⟨Z,hZ⟩:∃Z,ei p t []=Z:=⟨_,rfl⟩;have hD:ot p t=if Z.2=true then Z else ([],false):=by unfold ot;rw[hZ]
 rw[hD];refine aC.g ?_;simp only[go_sem];refine aC.ep (ι:={q:Nat×List Bd // q.1<=p.length/\ei (p.drop q.1) (t.drop q.1) q.2=Z/\q.2.length<=Tm.bw (p.take q.1)/\∀b∈q.2,b.t.size<1000000}) 1000
  (λq=>dV 34 [(0,.ps 2 (p.map Tm.aH)),(1,.ps 2 (t.map Tm.aH)),(2,eR 0 3 (dp q.1.2)),(6,.a8),(7,.bool false),(8,.int .i64 q.1.1)])
  (λq=>[cX (dp q.1.2)]) (λq=>p.length-q.1.1) ⟨(0,[]),by omega,by simpa using hZ,by simp,λb hb=>by cases hb⟩ [] ?_ (λ_=>by simp) ?_
 ·refine eL rfl ?_;simp only[go_sem,show dp []=[] from rfl,pU,pC,bC,bT (bC _)]
 ·rintro ⟨⟨i,s⟩,hi,aD,u0,eM⟩;simp only at hi aD u0 eM;by_cases bx:(i:Int)<p.length
  ·have aL:i<p.length:=by omega
   have nQ:i<t.length:=by omega
   have oR:(i:Int)<t.length:=by omega
   have hw:=W1' i (by omega)
   have D5:(p.map Tm.aH).getD i .undef=p[i].aH:=jT aL;have He:(t.map Tm.aH).getD i .undef=t[i].aH:=jT nQ;have z1:=sn p i aL;have z2:=sn t i nQ;have rD:=zC p i aL;have gE:=yj p (i+1);have FA:=hg _ (ay aL);rw[ai aL,ai nQ,ei]at aD;generalize p[i]=x at *
   generalize t[i]=y at *
   have uJ:=n9 x;have pq:ak Tryz.prog (.fn 206 [] []) [x.aH,y.aH,eR 0 3 (dp s)] [cX (dp s)] (CY s (gI x y s)):=by
    obtain⟨h2,Ki⟩:=x;simp only[Tm.args]at uJ;exact N9 _ h2 Ki y s (cQ _) FA (by omega) (by omega) eM
   have wS:=LC x y s;have wZ:∀b∈(gI x y s).1,b.t.size<1000000:=Ii (P:=λt=>t.size<1000000) KM x y s (by omega) eM;generalize gI x y s=z at *
   simp only[go_sem,bx];refine aC.oN [] 1 1 mixed rfl rfl (by decide) 9 rfl rfl rfl rfl ?_;simp only[go_sem,cM,D5,He,dO,bx,oR]
   (repeat((with_reducible refine And.intro ?_ ?_);·omega))
   refine aC.g ?_;simp only[go_sem];refine L6 rfl ?_;simp only[go_sem];rw[<-cq x,<-cq y];refine pq.mono ?_;rintro r σ' (⟨hz,rfl,rfl,e⟩|⟨hz,rfl,rfl⟩|⟨hz,b,l,rfl,hb,iG⟩)
   ·intro _;rw[hz,if_pos rfl]at aD;simp only[go_sem];refine aC.g ?_;simp only[go_sem,hw];refine⟨⟨(i+1,z.1),aL,aD,by simp only;omega,wZ⟩,[],eL rfl ?_,by simp only;omega⟩;simp only[go_sem,hw,bC,bT (bC _)]
   ·intro _;rw[hz,if_pos rfl]at aD;simp only[go_sem];refine aC.g ?_;simp only[go_sem,hw];refine⟨⟨(i+1,z.1),aL,aD,by simp only;omega,wZ⟩,[(0,4),(4,0)],eL rfl ?_,by simp only;omega⟩;simp only[go_sem,hw,bC,bT (bC _)]
   ·intro _;rw[hz,if_neg (by simp)]at aD;subst aD;simp only[go_sem];refine aC.g ?_;simp only[go_sem];refine aC.g ?_;simp only[go_sem,show dp []=[] from rfl]
  ·have dm:i=p.length:=by omega
   subst dm;rw[aJ,ei]at aD;subst aD;simp only[go_sem,bx];refine aC.g ?_;simp only[go_sem,nI]
def rO (s:List Bd)(v:Nat):Option Bd:=if (ng s v).head = -1-(v:Int) then none else some ⟨v,ng s v⟩
def mO (s:List Bd)(n:Nat):List Bd:=(List.range n).filterMap (rO s)
def nD (s:List Bd):List Bd:=mO s 256
theorem Ym2 (s:List Bd) (hs:s.length<1000000):az Tryz.prog 232 [.ps 3 (dp s)] (.ps 3 (dp (nD s))):=by
 refine az.iq (rs:=[.tmp 2]) (m:=24) Tryz.func232 rfl rfl rfl (by decide) (of_eq_true (nq _)) ?_;refine aC.pad 1 (ae _) (by simp[go_sem]) trivial ?_;refine aC.g ?_;simp only[go_sem];refine aC.ep (ι:={i:Nat // i<=256}) 1000 (λq=>dV 25 [(0,.ps 3 (dp s)),(2,.a8),(3,eR 0 3 (dp (mO s q.1))),(4,.int .i64 q.1)])
  (λq=>[cX (dp (mO s q.1))]) (λq=>256-q.1) ⟨0,aj _⟩ [] ?_ (λ_=>by simp) ?_
 ·refine eL rfl ?_;simp only[go_sem,show dp (mO s 0)=[] from rfl,pU,pC,bT (of_eq_true (nq s))]
 ·rintro ⟨i,hi⟩;by_cases bx:(i:Int)<=255
  ·have hw:=W1' i (by omega)
   have sW:IntKind.i64.wrap (-1-(i:Int)) = -1-(i:Int):=dt (by omega);have JL:=UI s i (by omega) hs;have rD:mO s (i+1)=mO s i++(rO s i).toList:=by
    unfold mO;rw[List.range_succ,List.filterMap_append];congr 1
   have ME:(mO s i).length<=i:=by
    unfold mO;have:=pQ (rO s) (List.range i);simpa using this
   generalize hq:mO s i=q at *
   unfold rO at rD;generalize ng s i=x at *
   simp only[go_sem,bx];refine ak.bm [] JL (bL _ _ _) ⟨of_eq_true (nq _),trivial,trivial⟩ ?_;rw[eW];simp only[ite_self];refine aC.g ?_;by_cases e:x.head = -1-(i:Int)
   ·rw[if_pos e,Option.toList_none,bf]at rD;simp only[go_sem,dO,sW,e,hw,hq];refine⟨⟨i+1,by omega⟩,[],eL rfl ?_,by simp only;omega⟩;simp only[rD];simp only[go_sem,hw,bT (of_eq_true (nq s))]
   ·rw[if_neg e,dx]at rD;have ho:=of_eq_true (E1 [⟨(i:Int),x⟩]);have e1:dp [(⟨(i:Int),x⟩:Bd)]=[.agg [.int .i64 i,.int .i64 x.head,.ps 2 (x.args.map Tm.aH)]]:=rfl;rw[e1]at ho;have lw:=of_eq_true (nq (n:=0) (q++[⟨(i:Int),x⟩]));rw[EZ,e1]at lw;simp only[go_sem,dO,sW,e,hw,hq,qg,ho,q_];refine⟨by omega,⟨i+1,by omega⟩,[(0,3),(3,0)],eL rfl ?_,by simp only;omega⟩;simp only[rD];rw[EZ,e1,qP (by simp),qQ (by simp),q_];simp only[go_sem,hw,bT (of_eq_true (nq s)),bT lw,iD (aj _) lw]
  ·have dm:i=256:=by omega
   subst dm;rw[show mO s 256=nD s from rfl]
   simp only[go_sem,bx];refine aC.g ?_;simp only[go_sem,nI]
def ft (p t:List Tm):List Bd×Bool×Int :=
 if lF p=false\/lF t=false\/p.length≠t.length then ([],false,1) else if (ot p t).2=false then ([],false,0) else (nD (ot p t).1,true,0)
theorem Ymy (p t:List Tm) (hp:Tm.bw p<100000) (ht:Tm.bw t<100000) :
  az Tryz.prog 218 [.ps 2 (p.map Tm.aH),.ps 2 (t.map Tm.aH)] (.dw [.ps 3 (dp (ft p t).1),.bool (ft p t).2.1,.int .i64 (ft p t).2.2]):=by
 refine az.begin (rs:=[.tmp 4,.tmp 5,.tmp 6]) (m:=32) 1000 Tryz.func218 rfl rfl rfl (by decide) ⟨of_eq_true (nq _),trivial,trivial,trivial⟩ ?_;have tE:=mH p;have zi:=mH t;have r1:=LI p (λx hx=>by have:=sO hx;omega) (by omega);have r2:=LI t (λx hx=>by have:=sO hx;omega) (by omega);have e0:dp []=[]:=rfl;simp only[go_sem];refine ak.bm [] (r1) (bL _ _ _) (by simp[go_sem,bC]) ?_;simp only[bj,bA,bz,if_true];refine aC.g ?_;cases h1:lF p with
 |false =>
  rw[show ft p t=([],false,1) by unfold ft;rw[if_pos (.inl h1)]];simp only[go_sem,e0]
 | true =>
  simp only[go_sem];refine ak.bm [] (r2) (bL _ _ _) (by simp[go_sem,bC]) ?_;simp only[bj,bA,bz,if_true];refine aC.g ?_;cases h2:lF t with
  |false =>
   rw[show ft p t=([],false,1) by unfold ft;rw[if_pos (.inr (.inl h2))]];simp only[go_sem,e0]
  | true =>
   by_cases h3:(p.length:Int)=t.length
   ·have hA:ft p t=if (ot p t).2=false then ([],false,0) else (nD (ot p t).1,true,0):=by unfold ft;rw[if_neg (by rw[h1,h2];simp;omega)]
    rw[hA];have Jn:∀x∈p,x.good=true:=λx hx=>by
     have:=bu.1 h1 x hx;exact(qZ (by simpa using this)).2.2
    have oA:=Nw p t (by omega) hp ht Jn;have mA:(ot p t).1.length<1000000:=by
     have:=K0 p t [];unfold ot;split
     ·simp only[aF]at this;omega
     ·simp
    generalize ot p t=z at *
    simp only[go_sem,h3];refine ak.bm [] oA (bL _ _ _) ⟨bC _,bC _,trivial,trivial⟩ ?_;rw[eW];simp only[ite_self];refine aC.g ?_;cases h4:z.2 with
    |false =>
     rw[if_pos rfl];simp only[go_sem,e0]
    |true =>
     rw[if_neg (by simp)];have rX:=Ym2 z.1 mA;generalize nD z.1=y at *
     simp only[go_sem];refine ak.bm [] rX (bL _ _ _) ⟨of_eq_true (nq _),trivial⟩ ?_;rw[eW];simp only[ite_self];refine aC.g ?_;simp only[go_sem]
   ·rw[show ft p t=([],false,1) by unfold ft;rw[if_pos (.inr (.inr (by omega)))]];simp only[go_sem,h3,e0]
theorem Yj5 (p t:Tm) (hp:p.size<100000) (ht:t.size<100000) :
  az Tryz.prog 202 [p.aH,t.aH] (.dw [.ps 3 (dp (ft [p] [t]).1),.bool (ft [p] [t]).2.1,.int .i64 (ft [p] [t]).2.2]):=by
 refine az.begin (rs:=[.tmp 4,.tmp 5,.tmp 6]) (m:=20) 1000 Tryz.func202 rfl rfl rfl (by decide) ⟨of_eq_true (nq _),trivial,trivial,trivial⟩ ?_;have h:=Ymy [p] [t] (by simpa[Tm.bw] using hp) (by simpa[Tm.bw] using ht);generalize ft [p] [t]=z at *
 simp only[go_sem,dO];refine ak.bm [2,3] h ?_ ⟨bC _,bC _,trivial⟩ ?_
 ·simp only[go_sem,k_,lb,aI,aR,cq]
 generalize (if bj (.dw [.ps 3 (dp z.1),.bool z.2.1,.int .i64 z.2.2])=true then _ else _)=S
 refine aC.g ?_;simp only[go_sem]
theorem Wp {t u:Tm} (h:u∈t.args):u.depth<t.depth:=by
 obtain ⟨k,ts⟩:=t;have key:∀ts:List Tm,u∈ts->u.depth<=Tm.gH ts:=by
  intro ts
  induction ts with
  |nil=>intro h;cases h
  |cons a ts ih =>
   intro h;rw[Tm.gH];rcases aU.1 h with rfl|h
   ·omega
   ·have:=ih h;omega
 have:=key ts h;rw[Tm.depth];omega
theorem WS {g:List Sy}:∀ {ts:List Tm},Tm.e8 g ts=true->∀u∈ts,u.known g=true
 |a :: ts,h,u,hu=>by
  rw[Tm.e8,aG]at h;rcases aU.1 hu with rfl|hu
  ·exact h.1
  ·exact WS h.2 u hu
theorem WA {g:List Sy}:∀ {ts:List Tm},Tm.fp g ts=true->∀u∈ts,u.cy g=false/\u.g_ g=true
 |a :: ts,h,u,hu=>by
  rw[Tm.fp,aG,aG,bX]at h;rcases aU.1 hu with rfl|hu
  ·exact h.1
  ·exact WA h.2 u hu
theorem Ysg {g:List Sy}{t:Tm}(hs:fH g=true)(h1:t.check=0)(h2:t.known g=true)(h3:t.g_ g=true):t.term g=0:=by
 unfold Tm.term;rw[if_neg (by rw[hs];simp),if_neg (by simp[h1]),if_neg (by rw[h2];simp),if_neg (by rw[h3];simp)]
theorem Zp {t:Tm}(h1:t.size<=400)(h2:t.depth<=40)(h3:t.good=true):t.check=0:=by
 unfold Tm.check;rw[if_neg (by omega),if_neg (by omega),if_pos h3]
theorem Yhd {g:List Sy} {t:Tm} (h:t.term g=0):∀u∈t.args,u.term g=0/\u.cy g=false:=λu hu=>by
 have hs:=KD h;obtain⟨h1,h2,h3⟩:=n_ h;obtain⟨c1,c2,c3⟩:=qZ h1;have z1:=sO hu;have z2:=n9 t;have z3:=Wp hu;have z4:=zD c3 u hu;obtain⟨k,ts⟩:=t;have C_:Tm.e8 g ts=true:=by
  rw[Tm.known]at h2;simp only[cb,aG,decide_eq_true_eq]at h2;rcases h2 with h2|h2
  ·have:=(zE c3).2.2.2 h2;rw[this]at hu;cases hu
  ·exact h2.2
 obtain⟨y1,y2⟩:=WA (by rwa [Tm.g_]at h3) u hu;exact⟨Ysg hs (Zp (by omega) (by omega) z4) (WS C_ u hu) y2,y1⟩
theorem G2 {g:List Sy}:∀t,iP g t->∀u∈t.args,iP g u:=λt h u hu=>⟨(Yhd h.1 u hu).1,yY (zH h.2) u hu⟩
mutual
def Tm.cv (v:Int):Tm->Nat
 |.mk h ts=>(if h = -1-v then 1 else 0)+Tm.vE v ts
def Tm.vE (v:Int):List Tm->Nat
 |[]=>0
 |t :: ts=>t.cv v+Tm.vE v ts
end
mutual
theorem Xbb (v:Int):∀t:Tm,t.cv v<=t.size
 |.mk h ts=>by rw[Tm.cv,Tm.size];have:=M_ v ts;split<;>omega
theorem M_ (v:Int):∀ts:List Tm,Tm.vE v ts<=Tm.bw ts
 |[]=>by simp[Tm.vE]
 |t :: ts=>by rw[Tm.vE,Tm.bw];have:=Xbb v t;have:=M_ v ts;omega
end
theorem YQ (v:Int):∀(ts:List Tm) (i:Nat) (hi:i<ts.length),Tm.vE v (ts.take (i+1))=Tm.vE v (ts.take i)+(ts[i]).cv v
 |t :: ts,0,_=>by simp[Tm.vE]
 |t :: ts,i+1,hi=>by
  simp only[cW,Tm.vE,df];rw[YQ v ts i (by simpa using hi)];omega
mutual
def Tm.kX (g:List Sy):Tm->Int
 |.mk h ts=>if h<0 then 1 else Tm.lx g ts (nG g h)
def Tm.lx (g:List Sy):List Tm->Int->Int
 |[],n=>n
 |t :: ts,n=>Tm.lx g ts (n+t.kX g)
end
theorem PE (g:List Sy):∀(ts:List Tm) (n m:Int),Tm.lx g ts (n+m)=Tm.lx g ts n+m
 |[],n,m=>rfl
 |t :: ts,n,m=>by rw[Tm.lx,Tm.lx,show n+m+t.kX g=n+t.kX g+m by omega,PE g ts]
mutual
theorem Yz7 {g:List Sy} (hg:uD g):∀t:Tm, -(1000000*(t.size:Int))<=t.kX g/\t.kX g<=1000000*(t.size:Int)
 |.mk h ts=>by
  have hw:=LM hg h;rw[Tm.kX,Tm.size];split
  ·omega
  ·have:=Qm hg ts (nG g h);omega
theorem Qm {g:List Sy} (hg:uD g):∀(ts:List Tm) (n:Int),n-1000000*(Tm.bw ts:Int)<=Tm.lx g ts n/\Tm.lx g ts n<=n+1000000*(Tm.bw ts:Int)
 |[],n=>by rw[Tm.lx];simp[Tm.bw]
 |t :: ts,n=>by
  rw[Tm.lx,Tm.bw];have:=Yz7 hg t;have:=Qm hg ts (n+t.kX g);omega
end
theorem WE (t:Tm) (v:Int) (hv : 0<=v/\v<=9223372036854775807):t.size<1000000->az Tryz.prog 233 [t.aH,.int .i64 v] (.int .i64 (t.cv v)):=by
 induction t using Tm.fF with
 |h h ts ih =>
 intro hs;have ha:=(yp h ts).symm;have eM:(Tm.mk h ts).size=1+Tm.bw ts:=rfl;have hlen:=mH ts;have Cc:IntKind.i64.wrap (-1-v) = -1-v:=dt (by omega);refine az.begin (rs:=[.tmp 4]) (m:=27) 1000 Tryz.func233 rfl rfl rfl (by decide) trivial ?_;rw[Tm.cv];obtain⟨c0,zS⟩:∃c0:Nat,(if h = -1-v then 1 else 0)=c0:=⟨_,rfl⟩
 rw[zS];have gM:c0<=1:=by rw[<-zS];split<;>omega
 have RZ:∀k:Int,k=c0->True:=λ_ _=>trivial;by_cases e:h = -1-v
 case' pos =>
  rw[if_pos e]at zS;have e':=eq_true e
 case' neg =>
  rw[if_neg e]at zS;have e':=eq_false e
 all_goals
  simp only[go_sem,ha,Cc,e'];refine aC.cA (ι:={i:Nat // i<=ts.length}) 1000 (λq=>dV 29 [(1,.int .i64 v),(2,.ptr 0 0),(4,.int .i64 0),(5,.int .i64 ((c0+Tm.vE v (ts.take q.1):Nat):Int)),(6,.int .i64 q.1)])
   (λ_=>[some (.var [.int .i64 h,.ps 2 (ts.map Tm.aH)])]) (λq=>ts.length-q.1) ⟨0,aj _⟩ ?_ (λ_=>by simp) ?_
  ·subst zS;simp only[go_sem,bC,Tm.vE]
  ·rintro⟨i,hi⟩;by_cases bx:(i:Int)<ts.length
   ·have aL:i<ts.length:=by omega
    have hw:=W1' i (by omega)
    have g1:(ts.map Tm.aH).getD i .undef=ts[i].aH:=jT aL;have z1:=sn ts i aL;have hc:=ih i aL (by omega);have rD:=YQ v ts i aL;have hb:=M_ v (ts.take (i+1));have v8:=yj ts (i+1);generalize ts[i]=x at *
    simp only[go_sem,bx,g1,dO]
    (repeat((with_reducible refine And.intro ?_ ?_);·omega))
    refine ak.bm [] (hc) (by(try simp only[cq]);exact bL _ _ _) (by simp[go_sem,cV,bC]) ?_;simp only[bj,bA,bz,if_true];refine aC.g ?_
    have lE:IntKind.i64.wrap (((c0+Tm.vE v (ts.take i):Nat):Int)+((x.cv v:Nat):Int))=((c0+Tm.vE v (ts.take (i+1)):Nat):Int):=by rw[dt (by omega)];omega
    simp only[go_sem,hw,lE];refine⟨⟨i+1,by omega⟩,?_,by simp only;omega⟩;simp only[go_sem,bC,lE]
   ·have dm:i=ts.length:=by omega
    subst dm;rw[bQ];simp only[go_sem,bx];refine aC.g ?_;simp only[go_sem]
theorem Ylo {g:List Sy}{h:Int}(h1:h.toNat<g.length):nG g h=(g[h.toNat]).weight:=by simp[nG,h1]
theorem XG (g:List Sy):∀(ts:List Tm) (i:Nat) (hi:i<ts.length) (n:Int),Tm.lx g (ts.take (i+1)) n=Tm.lx g (ts.take i) n+(ts[i]).kX g
 |t :: ts,0,_,n=>by simp[Tm.lx]
 |t :: ts,i+1,hi,n=>by
  simp only[cW,Tm.lx,df];rw[XG g ts i (by simpa using hi)]
theorem Yug (g:List Sy) (hg:uD g) (mA:g.length<1000000) (t:Tm):t.Dk g->t.size<1000000->az Tryz.prog 234 [.ps 4 (syms g),t.aH] (.int .i64 (t.kX g)):=by
 induction t using Tm.fF with
 |h h ts ih =>
 intro fA hs;have ha:=(yp h ts).symm;have eM:(Tm.mk h ts).size=1+Tm.bw ts:=rfl;have hlen:=mH ts;have Rn:=GY fA;have Mv:=Pk fA;simp only[Tm.head,Tm.args]at Rn Mv;refine az.begin (rs:=[.tmp 4]) (m:=31) 1000 Tryz.func234 rfl rfl rfl (by decide) trivial ?_;rw[Tm.kX];by_cases dP:h<0
 ·rw[if_pos dP];simp only[go_sem,ha,dP]
 ·rw [if_neg dP];have hk:h.toNat<g.length:=by omega
  have Jp:=sv hk;have MN:=Ylo hk;have hwl:=LM hg h;generalize g[h.toNat]=y at *
  rw[MN]at hwl ⊢;obtain⟨Z,hZ⟩:∃Z,Tm.lx g ts y.weight=Z:=⟨_,rfl⟩;rw[hZ];simp only[go_sem,ha,dP,na,Jp,sw]
  (repeat((with_reducible refine And.intro ?_ ?_);·omega))
  refine aC.cA (ι:={i:Nat // i<=ts.length}) 1000 (λq=>dV 33 [(0,.ps 4 (syms g)),(3,.ptr 0 0),(4,.int .i64 0),(5,.int .i64 (Tm.lx g (ts.take q.1) y.weight)),(6,.int .i64 q.1)])
   (λ_=>[some (.var [.int .i64 h,.ps 2 (ts.map Tm.aH)])]) (λq=>ts.length-q.1) ⟨0,aj _⟩ ?_ (λ_=>by simp) ?_
  ·simp only[go_sem,bC,cS,Tm.lx]
  ·rintro⟨i,hi⟩;by_cases bx:(i:Int)<ts.length
   ·have aL:i<ts.length:=by omega
    have hw:=W1' i (by omega)
    have g1:(ts.map Tm.aH).getD i .undef=ts[i].aH:=jT aL;have z1:=sn ts i aL;have hc:=ih i aL (LG Mv _ (ay aL)) (by omega);have rD:=XG g ts i aL y.weight;have hb:=Qm hg (ts.take (i+1)) y.weight;have v8:=yj ts (i+1);generalize ts[i]=x at *
    simp only[go_sem,bx,g1,dO]
    (repeat((with_reducible refine And.intro ?_ ?_);·omega))
    refine ak.bm [] (hc) (by(try simp only[cq]);exact bL _ _ _) (by simp[go_sem,cV,bC,cS]) ?_;simp only[bj,bA,bz,if_true];refine aC.g ?_
    have lE:IntKind.i64.wrap (Tm.lx g (ts.take i) y.weight+x.kX g)=Tm.lx g (ts.take (i+1)) y.weight:=by rw[dt (by omega)];omega
    simp only[go_sem,hw,lE];refine⟨⟨i+1,by omega⟩,?_,by simp only;omega⟩;simp only[go_sem,bC,cS,lE]
   ·have dm:i=ts.length:=by omega
    subst dm;rw[bQ,hZ];simp only[go_sem,bx];refine aC.g ?_;simp only[go_sem]
theorem WG (g:List Sy)(t:Tm)(h:iP g t):az Tryz.prog 220 [.ps 4 (syms g),t.aH] (.dw [.int .i64 (t.kX g),.int .i64 0]):=by
 obtain⟨hg,mA⟩:=UA (KD h.1);have hs:=(my h).2;have h1:=P7 g t (by omega);rw[h.1]at h1;have h2:=Yug g hg (by omega) t (IB h).2.1 (by omega);refine az.begin (rs:=[.tmp 4,.tmp 5]) (m:=14) 1000 Tryz.func220 rfl rfl rfl (by decide) ⟨trivial,trivial,trivial⟩ ?_;simp only[go_sem,dO];refine ak.bm [] (h1) (by(try simp only[cq]);exact bL _ _ _) (by simp[go_sem,cV,bC,cS]) ?_;simp only[bj,bA,bz,if_true];refine aC.g ?_
 simp only[go_sem];refine ak.bm [] (h2) (by(try simp only[cq]);exact bL _ _ _) (by simp[go_sem,cV,bC,cS]) ?_;simp only[bj,bA,bz,if_true];refine aC.g ?_
 simp only[go_sem]
def gx (a b:Tm):Bool:=b.vars.all λv=>decide (b.cv v<=a.cv v)
theorem Yd5 {t:Tm} (hf:t.fit):∀v∈t.vars,0<=v/\v<=9223372036854775807:=by
 have h0:=VF t;have key:∀t:Tm,t.fit->t.iS (λv=>v<=9223372036854775807):=by
  intro t
  induction t using Tm.fF with
  | h h ts ih =>
   intro hf;refine⟨λhn=>?_,?_⟩
   ·have:=hf.1;unfold nj at this;omega
   ·have C8:=hf.2;have:∀l:List Tm,(∀x∈l,x.iS (λv=>v<=9223372036854775807))->Tm.ji (λv=>v<=9223372036854775807) l:=by
     intro l
     induction l with
     |nil=>intro _;trivial
     |cons a l Sh=>intro h;exact⟨h a (by simp),Sh λx hx=>h x (by simp[hx])⟩
    refine this ts λx hx=>?_;obtain⟨i,hi,rfl⟩:=j6.1 hx;exact ih i hi (GV C8 i hi)
 have h1:=(EV (p:=λv=>v<=9223372036854775807) t).2 (key t hf);exact λv hv=>⟨h0 v hv,h1 v hv⟩
theorem Yfk (a b:Tm) (ha:vj a) (hb:vj b):az Tryz.prog 219 [a.aH,b.aH] (.bool (gx a b)):=by
 refine az.begin (rs:=[.tmp 4]) (m:=26) 1000 Tryz.func219 rfl rfl rfl (by decide) trivial ?_;have h1:=ha.2;have h2:=hb.2;have hv:=LU b hb.1 (by omega);have Er:=EU b;have ML:=Yd5 hb.1;unfold gx;generalize b.vars=vs at *
 obtain⟨Z,hZ⟩:∃Z,(vs.all λv=>decide (b.cv v<=a.cv v))=Z:=⟨_,rfl⟩;rw[hZ];simp only[go_sem,dO];refine ak.bm [] (hv) (by(try simp only[cq]);exact bL _ _ _) (by simp[go_sem,cV,bC]) ?_;rw[eW];simp only[ite_self];refine aC.g ?_
 simp only[go_sem];refine aC.cA (ι:={i:Nat // i<=vs.length/\((vs.drop i).all λv=>decide (b.cv v<=a.cv v))=Z}) 1000 (λq=>dV 28 [(2,.ptr 0 0),(3,.ptr 1 0),(4,.bool false),(5,.ps 1 (ints vs)),(6,.int .i64 q.1)])
  (λ_=>[some (.var [.int .i64 a.head,.ps 2 (a.args.map Tm.aH)]),some (.var [.int .i64 b.head,.ps 2 (b.args.map Tm.aH)])]) (λq=>vs.length-q.1) ⟨0,aj _,hZ⟩ ?_ (λ_=>by simp) ?_
 ·simp only[go_sem,bC,cY]
 ·rintro⟨i,hi,aD⟩;by_cases bx:(i:Int)<vs.length
  ·have aL:i<vs.length:=by omega
   have hw:=W1' i (by omega)
   have g1:=vu aL;have hr:=ML _ (ay aL);have c1:=WE a vs[i] hr (by omega);have c2:=WE b vs[i] hr (by omega);rw[ai aL,h_]at aD;generalize vs[i]=v at *
   simp only[go_sem,bx,ja];refine aC.draw [] 2 2 mixed rfl rfl (by decide) ?_;simp only[go_sem,cM,g1,bx,ja]
   (repeat((with_reducible refine And.intro ?_ ?_);·omega))
   refine jS (c1) (by(try simp only[cq]);exact bL _ _ _) (by simp[go_sem,cV,bC]) ?_
   simp only[go_sem,g1,bx,ja]
   (repeat((with_reducible refine And.intro ?_ ?_);·omega))
   refine jS (c2) (by(try simp only[cq]);exact bL _ _ _) (by simp[go_sem,cV,bC]) ?_
   simp only[go_sem];refine aC.g ?_;by_cases e:(a.cv v:Int)<b.cv v
   ·rw[decide_eq_false (by omega),bU]at aD;subst aD;simp only[go_sem,e];refine aC.g ?_;simp only[go_sem]
   ·rw[decide_eq_true (by omega),bO]at aD;simp only[go_sem,e,hw];refine⟨⟨i+1,by omega,aD⟩,?_,by simp only;omega⟩;simp only[go_sem,bC,cY]
  ·have dm:i=vs.length:=by omega
   subst dm;rw[aJ]at aD;have aD:true=Z:=aD;subst aD;simp only[go_sem,bx,ja];refine aC.g ?_;simp only[go_sem]
mutual
def Tm.gr (g:List Sy):Tm->Tm->Bool
 |.mk h ts,u=>if gx (.mk h ts) u=false then false else if (Tm.mk h ts).kX g≠u.kX g then decide (u.kX g<(Tm.mk h ts).kX g) else
  if h<0\/u.head<0 then false else if h≠u.head then decide (u.head<h) else Tm.rU g ts u.args
def Tm.rU (g:List Sy):List Tm->List Tm->Bool
 |[],_=>false
 |_ :: _,[]=>false
 |t :: ts,u :: us=>if t=u then Tm.rU g ts us else t.gr g u
end
theorem UH {g:List Sy}{t u:Tm}(ht:iP g t)(hu:iP g u)(h0 : 0<=t.head)(he:t.head=u.head):t.args.length=u.args.length:=by
 have h1:=L8 (IB ht).2.2.1 h0;have h2:=L8 (IB hu).2.2.1 (by omega);rw[he]at h1;omega
set_option maxHeartbeats 1000000 in
theorem KE (g:List Sy):∀(n:Nat) (t u:Tm),t.size<=n->iP g t->iP g u->az Tryz.prog 203 [.ps 4 (syms g),t.aH,u.aH] (.bool (t.gr g u))
 |0,t,_,h,_,_=>by have:=BM t;omega
 | n+1,t,u,hn,ht,hu=>by
  refine az.begin (rs:=[.tmp 6]) (m:=80) 1000 Tryz.func203 rfl rfl rfl (by decide) trivial ?_;have st:=my ht;have su:=my hu;have ho:=Yfk t u st su;have w1:=WG g t ht;have w2:=WG g u hu;have oA:∀x y:Tm,x∈t.args->y∈u.args->az Tryz.prog 203 [.ps 4 (syms g),x.aH,y.aH] (.bool (x.gr g y))/\az Tryz.prog 88 [x.aH,y.aH] (.bool (decide (x=y))):=λx y hx hy=>by
   have h1:=sO hx;have h2:=n9 t;have h3:=G2 t ht x hx;have h4:=G2 u hu y hy;exact⟨KE g n x y (by omega) h3 h4,BP x y (by have:=(my h3).2;omega) (by have:=(my h4).2;omega)⟩
  have hlen:=λh0 he=>UH ht hu h0 he;have zi:=mH t.args;have A8:=n9 t;have Ef:t.gr g u=if gx t u=false then false else if t.kX g≠u.kX g then decide (u.kX g<t.kX g) else if t.head<0\/u.head<0 then false else if t.head≠u.head then decide (u.head<t.head) else Tm.rU g t.args u.args:=by
   cases t;rw[Tm.gr];rfl
  rw[Ef];have eM:=st.2;clear Ef st su ht hu;generalize gx t u=ob at *
  generalize t.kX g=wt at *
  generalize u.kX g=wu at *
  simp only[go_sem,dO];refine ak.bm [] (ho) (by(try simp only[cq]);exact bL _ _ _) (by simp[go_sem,cV,bC]) ?_;simp only[bj,bA,bz,if_true];refine aC.g ?_
  cases ob with
  |false =>
   rw[if_pos rfl];simp only[go_sem]
  | true =>
   rw[if_neg (by simp)];simp only[go_sem,dO];refine ak.bm [] (w1) (by(try simp only[cq]);exact bL _ _ _) (by simp[go_sem,cV,bC,cS]) ?_;rw[eW];simp only[ite_self];refine aC.g ?_
   simp only[go_sem,dO];refine ak.bm [] (w2) (by(try simp only[cq]);exact bL _ _ _) (by simp[go_sem,cV,bC,cS]) ?_;rw[eW];simp only[ite_self];refine aC.g ?_
   by_cases e1:wt=wu
   ·rw [if_neg (λh=>h e1)];subst e1;by_cases e2:t.head<0
    ·rw[if_pos (.inl e2)];simp only[go_sem,e2]
    ·by_cases e3:u.head<0
     ·rw[if_pos (.inr e3)];simp only[go_sem,e2,e3]
     ·rw [if_neg (λh=>h.elim e2 e3)];by_cases e4:t.head=u.head
      ·rw [if_neg (λh=>h e4)];have hl:=hlen (by omega) e4;obtain⟨Z,hZ⟩:∃Z,Tm.rU g t.args u.args=Z:=⟨_,rfl⟩;rw[hZ];have Qt:=eq_true e4;simp only[go_sem,e2,e3,Qt];refine aC.cA (ι:={i:Nat // i<=t.args.length/\Tm.rU g (t.args.drop i) (u.args.drop i)=Z}) 1000 (λq=>dV 83 [(0,.ps 4 (syms g)),(4,.ptr 0 0),(5,.ptr 1 0),(6,.bool false),(11,.int .i64 q.1)])
        (λ_=>[some (.var [.int .i64 t.head,.ps 2 (t.args.map Tm.aH)]),some (.var [.int .i64 u.head,.ps 2 (u.args.map Tm.aH)])]) (λq=>t.args.length-q.1) ⟨0,aj _,hZ⟩ ?_ (λ_=>by simp) ?_
       ·simp only[go_sem,bC,cS]
       ·rintro ⟨i,hi,aD⟩;by_cases bx:(i:Int)<t.args.length
        ·have aL:i<t.args.length:=by omega
         have nQ:i<u.args.length:=by omega
         have oR:(i:Int)<u.args.length:=by omega
         have hw:=W1' i (by omega)
         have g1:(t.args.map Tm.aH).getD i .undef=t.args[i].aH:=jT aL;have g2:(u.args.map Tm.aH).getD i .undef=u.args[i].aH:=jT nQ;obtain⟨c1,c2⟩:=oA _ _ (ay aL) (ay nQ);rw[ai aL,ai nQ,Tm.rU]at aD;generalize t.args[i]=x at *
         generalize u.args[i]=y at *
         simp only[go_sem,bx];refine aC.draw [] 2 2 mixed rfl rfl (by decide) ?_;simp only[go_sem,cM,g1,g2,dO,bx,oR]
         (repeat((with_reducible refine And.intro ?_ ?_);·omega))
         refine jS (c2) (by(try simp only[cq]);exact bL _ _ _) (by simp[go_sem,cV,bC]) ?_
         simp only[go_sem];refine aC.g ?_;by_cases e5:x=y
         ·rw[if_pos e5]at aD;rw[decide_eq_true e5];simp only[go_sem,hw];refine⟨⟨i+1,by omega,aD⟩,?_,by simp only;omega⟩;simp only[go_sem,bC,cS]
         ·rw[if_neg e5]at aD;rw[decide_eq_false e5];subst aD;simp only[go_sem];refine aC.draw [] 2 2 mixed rfl rfl (by decide) ?_;simp only[go_sem,cM,g1,g2,dO,bx,oR]
          (repeat((with_reducible refine And.intro ?_ ?_);·omega))
          refine jS (c1) (by(try simp only[cq]);exact bL _ _ _) (by simp[go_sem,cV,bC,cS]) ?_
          simp only[go_sem];refine aC.g ?_;simp only[go_sem];refine aC.g ?_;simp only[go_sem]
        ·have dm:i=t.args.length:=by omega
         subst dm;rw[aJ,Tm.rU]at aD;subst aD;simp only[go_sem,bx];refine aC.g ?_;simp only[go_sem]
      ·rw[if_pos e4];have Qt:=eq_false e4;simp only[go_sem,e2,e3,Qt]
   ·rw[if_pos e1];have Qs:=eq_false e1;simp only[go_sem,Qs]
theorem yq (l:List Tm):bG 0 (l.map Tm.aH):=bC l
theorem yo (l:List Li):bG 0 (lits l):=bI l
def fk (p:Nat->Bool):Nat->Nat->Option Nat
 |0,_=>none
 |n+1,k=>if p k then some k else fk p n (k+1)
theorem Nc {p:Nat->Bool}:∀ {n k m:Nat},fk p n k=some m->k<=m/\m<k+n/\p m=true
 |n+1,k,m,h=>by
  rw[fk]at h;split at h
  ·rename_i h1;cases h;exact⟨ae _,by omega,h1⟩
  ·have:=Nc h;exact⟨by omega,by omega,this.2.2⟩
def HF {α:Type}(same : α->α->Bool)(b:List α)(us:List Bool)(x : α)(k:Nat):Bool:=!us.getD k false&&(match b[k]? with|some y=>same x y|none=>false)
theorem M5 {α:Type}{same : α->α->Bool}{b:List α}{us:List Bool}{x : α}{k:Nat}(h:k<b.length):HF same b us x k=(!us.getD k false&&same x b[k]):=by simp[HF,h]
def pa (x y:Tm):Bool:=decide (x=y)
def pO {α:Type} (same : α->α->Bool) (b:List α):List α->List Bool->List α
 |[],_=>[]
 |x :: a,us=>match fk (HF same b us x) b.length 0 with
  |none=>x :: pO same b a us
  |some k=>pO same b a (us.set k true)
def eB (l:List Bool):List ah:=l.map .bool
theorem sN (l:List Bool):(eB l).length=l.length:=by simp[eB]
theorem jA {n:Nat}(l:List Bool):bG n (eB l):=wx λ_ _=>trivial
theorem yT {l:List Bool}{i:Nat}(h:i<l.length):(eB l).getD i .undef=.bool (l.getD i false):=by simp[eB,List.getD,h]
theorem W9 (l:List Bool)(i:Nat):(eB l).set i (.bool true)=eB (l.set i true):=by simp[eB,l9]
theorem HW (n:Nat):List.replicate n (ah.bool false)=eB (List.replicate n false):=by simp[eB]
theorem V1 (l:List Bool)(k:Nat)(h:k<l.length):c_ ((eB l).getD k .undef)=false:=by rw[yT h];rfl
theorem T3 (a b:List Tm) (iz:∀x∈a,∀y∈b,az Tryz.prog 88 [x.aH,y.aH] (.bool (pa x y))) (ha:a.length<1000000) (hb:b.length<1000000) :
  az Tryz.prog 258 [.ps 2 (List.map Tm.aH a),.ps 2 (List.map Tm.aH b)] (.ps 2 (List.map Tm.aH (pO pa b a (List.replicate b.length false)))):=by
 refine az.iq (rs:=[.tmp 4]) (m:=57) Tryz.func258 rfl rfl rfl (by decide) (bC _) ?_;refine aC.g ?_;have I6:(0:Int)<=b.length/\(b.length:Int)<=1000000000:=by omega
 have nx:b.length<=1000000000:=by omega
 obtain⟨Z,hZ⟩:∃Z,pO pa b a (List.replicate b.length false)=Z:=⟨_,rfl⟩;rw[hZ];simp only[go_sem,ao,I6,nk];rw[HW];refine aC.ep (ι:={q:Nat×List Bool×List Tm // q.1<=a.length/\q.2.1.length=b.length/\q.2.2++pO pa b (a.drop q.1) q.2.1=Z/\q.2.2.length<=q.1}) 1000
  (λq=>dV 59 [(0,.ps 2 (List.map Tm.aH a)),(1,.ps 2 (List.map Tm.aH b)),(4,.a8),(5,.os 0 0 b.length 1),(6,eR 1 2 (List.map Tm.aH q.1.2.2)),(7,.int .i64 q.1.1)])
  (λq=>[some (.row (eB q.1.2.1) 0),cX (List.map Tm.aH q.1.2.2)]) (λq=>a.length-q.1.1) ⟨(0,List.replicate b.length false,[]),by omega,by simp,by simpa using hZ,by simp⟩ [] ?_ (λ_=>by simp) ?_
 ·refine eL rfl ?_;simp only[go_sem,aR,pU,pC,bC,bT (yq a),bT (yq b),jA,bT (jA _)]
 ·rintro ⟨⟨i,us,out⟩,hi,qU,aD,B9⟩;simp only at hi qU aD B9;by_cases bx:(i:Int)<a.length
  ·have aL:i<a.length:=by omega
   have hw:=W1' i (by omega)
   have g1:(List.map Tm.aH a).getD i .undef=a[i].aH:=jT aL;have AJ:=iz _ (ay aL);rw[ai aL,pO]at aD;generalize a[i]=x at *
   obtain⟨p,hp⟩:∃p:Nat->Bool,HF pa b us x=p:=⟨_,rfl⟩;rw[hp]at aD;obtain⟨F,hF⟩:∃F,fk p b.length 0=F:=⟨_,rfl⟩;rw[hF]at aD;have iG:bG 0 (List.map Tm.aH out):=bC _;simp only[go_sem,bx,ao];refine aC.ep (ι:={q:Nat×Option Nat // q.1<=b.length/\match q.2 with|none=>fk p (b.length-q.1) q.1=F|some k=>F=some k}) 1000
    (λq=>dV 59 [(0,.ps 2 (List.map Tm.aH a)),(1,.ps 2 (List.map Tm.aH b)),(4,.a8),(5,.os 0 0 b.length 1),(6,eR 1 2 (List.map Tm.aH out)),(7,.int .i64 i),(8,.int .i64 (match q.1.2 with|none=>-1|some k=>(k:Int))),(9,.int .i64 q.1.1)])
    (λ_=>[some (.row (eB us) 0),cX (List.map Tm.aH out)]) (λq=>b.length-q.1.1) ⟨(0,none),aj _,by simpa using hF⟩ [] ?_ (λ_=>by simp) ?_
   ·refine eL rfl ?_;simp only[go_sem,bC,bT (yq a),bT (yq b),bT iG,jA,bT (jA _)]
   ·rintro ⟨⟨k,at_⟩,hk,kV⟩;simp only at hk kV;cases at_ with
    | some k0 =>
     simp only at kV;subst kV;obtain⟨f1,f2,f3⟩:=Nc hF;have wR:¬((k0:Int)<0):=by omega
     have vI:(k0:Int)<b.length:=by omega
     have JE:=V1 us k0 (by omega);have qS:=sN us;have y_:=yT (l:=us) (i:=k0) (by omega);by_cases ov:(k:Int)<b.length
     case' pos=>simp only[go_sem,ov,ao,wR]
     case' neg=>simp only[go_sem,ov,ao,wR]
     all_goals
      refine aC.g ?_;simp only[go_sem,wR,vI,qS,qU,JE,y_]
      (repeat((with_reducible refine And.intro ?_ ?_);·omega))
      refine⟨⟨(i+1,us.set k0 true,out),aL,by simpa using qU,aD,by simp only;omega⟩,[],eL rfl ?_,by simp only;omega⟩;simp only[go_sem,hw,W9,bC,bT (yq a),bT (yq b),bT iG,jA,bT (jA _)]
    | none =>
     simp only at kV;by_cases ov:(k:Int)<b.length
     ·have lD:k<b.length:=by omega
      have lE:=W1' k (by omega)
      have g2:(List.map Tm.aH b).getD k .undef=b[k].aH:=jT lD;have hc:=AJ _ (ay lD);have nR:p k=(!us.getD k false&&pa x b[k]):=by rw[<-hp];exact M5 lD
      rw[show b.length-k=(b.length-(k+1))+1 by omega,fk]at kV;generalize b[k]=y at *
      have qS:=sN us;have y_:=yT (l:=us) (i:=k) (by omega);simp only[go_sem,ov,ao];refine aC.draw [] 2 2 mixed rfl rfl (by decide) ?_;cases hu:us.getD k false with
      |true =>
       rw[hu]at nR y_;simp only[go_sem,cM,qS,qU,ov,y_]
       (repeat((with_reducible refine And.intro ?_ ?_);·omega))
       have nR:p k=false:=nR;rw[nR,if_neg (by simp)]at kV;refine aC.g ?_;simp only[go_sem,lE];refine⟨⟨(k+1,none),by simp only;omega,kV⟩,[],eL rfl ?_,by simp only;omega⟩;simp only[go_sem,lE,bC,bT (yq a),bT (yq b),bT iG,jA,bT (jA _)]
      | false =>
       rw[hu]at nR y_;have nR:p k=pa x y:=nR;rw[nR]at kV;simp only[go_sem,cM,qS,qU,ov,y_,g1,g2,dO,bx,ao]
       (repeat((with_reducible refine And.intro ?_ ?_);·omega))
       refine jS hc (by(try simp only[cq]);exact bL _ _ _) ⟨cV _,cV _,trivial⟩ ?_
       cases hs:pa x y with
       |true =>
        rw[hs,if_pos rfl]at kV;simp only[go_sem];refine aC.g ?_;simp only[go_sem,lE];refine⟨⟨(k+1,some k),by simp only;omega,kV.symm⟩,[],eL rfl ?_,by simp only;omega⟩;simp only[go_sem,lE,bC,bT (yq a),bT (yq b),bT iG,jA,bT (jA _)]
       |false =>
        rw[hs,if_neg (by simp)]at kV;simp only[go_sem];refine aC.g ?_;simp only[go_sem,lE];refine⟨⟨(k+1,none),by simp only;omega,kV⟩,[],eL rfl ?_,by simp only;omega⟩;simp only[go_sem,lE,bC,bT (yq a),bT (yq b),bT iG,jA,bT (jA _)]
     ·have Js:k=b.length:=by omega
      subst Js;rw[dF,fk]at kV;subst kV;have ho:=(by have:=of_eq_true (BO [x]);rw[aI,aR,cq]at this;exact this:eE ⟨2,true,32,[.int .i64 0,.a8],.struct⟩ [.agg [.int .i64 x.head,.ps 2 (x.args.map Tm.aH)]]);have lw:bG 0 (List.map Tm.aH (out++[x])):=bC _;rw[cf,aI,aR,cq x]at lw;simp only[go_sem,ov,ao];refine aC.g ?_;simp only[go_sem,g1,dO,bx,qg,ho,ao]
      (repeat((with_reducible refine And.intro ?_ ?_);·omega))
      refine⟨⟨(i+1,us,out++[x]),aL,qU,by rw[cg];exact aD,by simp only[aA,aq,aF];omega⟩,[(1,3),(3,1)],eL rfl ?_,by simp only;omega⟩;simp only[cf,aI,aR,cq x];rw[qP (by simp),qQ (by simp)];simp only[go_sem,hw,bC,bT (yq a),bT (yq b),bT lw,iD (aj _) lw,jA,bT (jA _),ao]
  ·have dm:i=a.length:=by omega
   subst dm;rw[aJ,pO,bf]at aD;subst aD;simp only[go_sem,bx,ao];refine aC.g ?_;simp only[go_sem,nI]
theorem UB (q:List Li)(x:Li):lits (q++[x])=lits q++[.agg [.bool x.neg,.int .i64 x.l.head,.ps 2 (x.l.args.map Tm.aH),.int .i64 x.r.head,.ps 2 (x.r.args.map Tm.aH)]]:=by
 simp only[lits,cf,aI,aR];rfl
def mY {α:Type}(gt : α->α->Bool)(a b:List α):Bool:=(b.all λy=>a.any λx=>gt x y)&&decide (0<a.length)
theorem Ph {α:Type}(gt : α->α->Bool)(a b:List α)(y : α):mY gt a (y :: b)=((a.any λx=>gt x y)&&mY gt a b):=by simp[mY,oD]
theorem Tt (a b:List Li) (iz:∀x∈a,∀y∈b,az Tryz.prog 77 [x.aH,y.aH] (.bool (dv x y))) (ha:a.length<1000000) (hb:b.length<1000000) :
  az Tryz.prog 221 [.ps 5 (lits a),.ps 5 (lits b)] (.ps 5 (lits (pO dv b a (List.replicate b.length false)))):=by
 refine az.iq (rs:=[.tmp 4]) (m:=57) Tryz.func221 rfl rfl rfl (by decide) (bI _) ?_;refine aC.g ?_;have I6:(0:Int)<=b.length/\(b.length:Int)<=1000000000:=by omega
 have nx:b.length<=1000000000:=by omega
 obtain⟨Z,hZ⟩:∃Z,pO dv b a (List.replicate b.length false)=Z:=⟨_,rfl⟩;rw[hZ];simp only[go_sem,dA,I6,nk];rw[HW];refine aC.ep (ι:={q:Nat×List Bool×List Li // q.1<=a.length/\q.2.1.length=b.length/\q.2.2++pO dv b (a.drop q.1) q.2.1=Z/\q.2.2.length<=q.1}) 1000
  (λq=>dV 59 [(0,.ps 5 (lits a)),(1,.ps 5 (lits b)),(4,.a8),(5,.os 0 0 b.length 1),(6,eR 1 5 (lits q.1.2.2)),(7,.int .i64 q.1.1)])
  (λq=>[some (.row (eB q.1.2.1) 0),cX (lits q.1.2.2)]) (λq=>a.length-q.1.1) ⟨(0,List.replicate b.length false,[]),by omega,by simp,by simpa using hZ,by simp⟩ [] ?_ (λ_=>by simp) ?_
 ·refine eL rfl ?_;simp only[go_sem,show lits []=[] from rfl,pU,pC,bI,bT (yo a),bT (yo b),jA,bT (jA _)]
 ·rintro ⟨⟨i,us,out⟩,hi,qU,aD,B9⟩;simp only at hi qU aD B9;by_cases bx:(i:Int)<a.length
  ·have aL:i<a.length:=by omega
   have hw:=W1' i (by omega)
   have g1:(lits a).getD i .undef=a[i].aH:=jT aL;have AJ:=iz _ (ay aL);rw[ai aL,pO]at aD;generalize a[i]=x at *
   obtain⟨p,hp⟩:∃p:Nat->Bool,HF dv b us x=p:=⟨_,rfl⟩;rw[hp]at aD;obtain⟨F,hF⟩:∃F,fk p b.length 0=F:=⟨_,rfl⟩;rw[hF]at aD;have iG:bG 0 (lits out):=bI _;simp only[go_sem,bx,dA];refine aC.ep (ι:={q:Nat×Option Nat // q.1<=b.length/\match q.2 with|none=>fk p (b.length-q.1) q.1=F|some k=>F=some k}) 1000
    (λq=>dV 59 [(0,.ps 5 (lits a)),(1,.ps 5 (lits b)),(4,.a8),(5,.os 0 0 b.length 1),(6,eR 1 5 (lits out)),(7,.int .i64 i),(8,.int .i64 (match q.1.2 with|none=>-1|some k=>(k:Int))),(9,.int .i64 q.1.1)])
    (λ_=>[some (.row (eB us) 0),cX (lits out)]) (λq=>b.length-q.1.1) ⟨(0,none),aj _,by simpa using hF⟩ [] ?_ (λ_=>by simp) ?_
   ·refine eL rfl ?_;simp only[go_sem,bI,bT (yo a),bT (yo b),bT iG,jA,bT (jA _)]
   ·rintro ⟨⟨k,at_⟩,hk,kV⟩;simp only at hk kV;cases at_ with
    | some k0 =>
     simp only at kV;subst kV;obtain⟨f1,f2,f3⟩:=Nc hF;have wR:¬((k0:Int)<0):=by omega
     have vI:(k0:Int)<b.length:=by omega
     have JE:=V1 us k0 (by omega);have qS:=sN us;have y_:=yT (l:=us) (i:=k0) (by omega);by_cases ov:(k:Int)<b.length
     case' pos=>simp only[go_sem,ov,dA,wR]
     case' neg=>simp only[go_sem,ov,dA,wR]
     all_goals
      refine aC.g ?_;simp only[go_sem,wR,vI,qS,qU,JE,y_]
      (repeat((with_reducible refine And.intro ?_ ?_);·omega))
      refine⟨⟨(i+1,us.set k0 true,out),aL,by simpa using qU,aD,by simp only;omega⟩,[],eL rfl ?_,by simp only;omega⟩;simp only[go_sem,hw,W9,bI,bT (yo a),bT (yo b),bT iG,jA,bT (jA _)]
    | none =>
     simp only at kV;by_cases ov:(k:Int)<b.length
     ·have lD:k<b.length:=by omega
      have lE:=W1' k (by omega)
      have g2:(lits b).getD k .undef=b[k].aH:=jT lD;have hc:=AJ _ (ay lD);have nR:p k=(!us.getD k false&&dv x b[k]):=by rw[<-hp];exact M5 lD
      rw[show b.length-k=(b.length-(k+1))+1 by omega,fk]at kV;generalize b[k]=y at *
      have qS:=sN us;have y_:=yT (l:=us) (i:=k) (by omega);simp only[go_sem,ov,dA];refine aC.draw [] 2 2 mixed rfl rfl (by decide) ?_;cases hu:us.getD k false with
      |true =>
       rw[hu]at nR y_;simp only[go_sem,cM,qS,qU,ov,y_]
       (repeat((with_reducible refine And.intro ?_ ?_);·omega))
       have nR:p k=false:=nR;rw[nR,if_neg (by simp)]at kV;refine aC.g ?_;simp only[go_sem,lE];refine⟨⟨(k+1,none),by simp only;omega,kV⟩,[],eL rfl ?_,by simp only;omega⟩;simp only[go_sem,lE,bI,bT (yo a),bT (yo b),bT iG,jA,bT (jA _)]
      | false =>
       rw[hu]at nR y_;have nR:p k=dv x y:=nR;rw[nR]at kV;simp only[go_sem,cM,qS,qU,ov,y_,g1,g2,gf,bx,dA]
       (repeat((with_reducible refine And.intro ?_ ?_);·omega))
       refine jS hc (bL _ _ _) ⟨jU _,jU _,trivial⟩ ?_;cases hs:dv x y with
       |true =>
        rw[hs,if_pos rfl]at kV;simp only[go_sem];refine aC.g ?_;simp only[go_sem,lE];refine⟨⟨(k+1,some k),by simp only;omega,kV.symm⟩,[],eL rfl ?_,by simp only;omega⟩;simp only[go_sem,lE,bI,bT (yo a),bT (yo b),bT iG,jA,bT (jA _)]
       |false =>
        rw[hs,if_neg (by simp)]at kV;simp only[go_sem];refine aC.g ?_;simp only[go_sem,lE];refine⟨⟨(k+1,none),by simp only;omega,kV⟩,[],eL rfl ?_,by simp only;omega⟩;simp only[go_sem,lE,bI,bT (yo a),bT (yo b),bT iG,jA,bT (jA _)]
     ·have Js:k=b.length:=by omega
      subst Js;rw[dF,fk]at kV;subst kV;have ho:=(by have:=of_eq_true (CJ [x]);exact this:eE ⟨5,true,72,[.bool false,.int .i64 0,.a8,.int .i64 0,.a8],.struct⟩ [.agg [.bool x.neg,.int .i64 x.l.head,.ps 2 (x.l.args.map Tm.aH),.int .i64 x.r.head,.ps 2 (x.r.args.map Tm.aH)]]);have lw:bG 0 (lits (out++[x])):=bI _;rw[UB]at lw;simp only[go_sem,ov,dA];refine aC.g ?_;simp only[go_sem,g1,gf,bx,qg,ho,dA]
      (repeat((with_reducible refine And.intro ?_ ?_);·omega))
      refine⟨⟨(i+1,us,out++[x]),aL,qU,by rw[cg];exact aD,by simp only[aA,aq,aF];omega⟩,[(1,3),(3,1)],eL rfl ?_,by simp only;omega⟩;simp only[UB];rw[qP (by simp),qQ (by simp)];simp only[go_sem,hw,bI,bT (yo a),bT (yo b),bT lw,iD (aj _) lw,jA,bT (jA _),dA]
  ·have dm:i=a.length:=by omega
   subst dm;rw[aJ,pO,bf]at aD;subst aD;simp only[go_sem,bx,dA];refine aC.g ?_;simp only[go_sem,nI]
theorem Tw (g:List Sy) (a b:List Tm) (gt:Tm->Tm->Bool) (iz:∀x∈a,∀y∈b,az Tryz.prog 203 [.ps 4 (syms g),x.aH,y.aH] (.bool (gt x y))) (ha:a.length<1000000) (hb:b.length<1000000) :
  az Tryz.prog 259 [.ps 4 (syms g),.ps 2 (List.map Tm.aH a),.ps 2 (List.map Tm.aH b)] (.bool (mY (λx y=>gt x y) a b)):=by
 refine az.begin (rs:=[.tmp 6]) (m:=37) 1000 Tryz.func259 rfl rfl rfl (by decide) trivial ?_;obtain⟨Z,hZ⟩:∃Z,mY (λx y=>gt x y) a b=Z:=⟨_,rfl⟩;rw[hZ];simp only[go_sem];refine aC.cA (ι:={i:Nat // i<=b.length/\mY (λx y=>gt x y) a (b.drop i)=Z}) 1000 (λq=>dV 40 [(0,.ps 4 (syms g)),(1,.ps 2 (List.map Tm.aH a)),(2,.ps 2 (List.map Tm.aH b)),(6,.bool false),(7,.int .i64 q.1)]) (λ_=>[]) (λq=>b.length-q.1) ⟨0,aj _,hZ⟩ ?_ (λ_=>aj _) ?_
 ·simp only[go_sem,bC,cS]
 ·rintro ⟨i,hi,aD⟩;by_cases bx:(i:Int)<b.length
  ·have aL:i<b.length:=by omega
   have hw:=W1' i (by omega)
   have g1:(List.map Tm.aH b).getD i .undef=b[i].aH:=jT aL;have AJ:=λx hx=>iz x hx _ (ay aL);rw[ai aL,Ph]at aD;generalize b[i]=y at *
   obtain⟨A,hA⟩:∃A,(a.any λx=>gt x y)=A:=⟨_,rfl⟩;rw[hA]at aD;simp only[go_sem,bx,ao];refine aC.cA (ι:={q:Nat×Bool // q.1<=a.length/\(q.2||(a.drop q.1).any λx=>gt x y)=A}) 1000 (λq=>dV 40 [(0,.ps 4 (syms g)),(1,.ps 2 (List.map Tm.aH a)),(2,.ps 2 (List.map Tm.aH b)),(6,.bool false),(7,.int .i64 i),(8,.bool q.1.2),(9,.int .i64 q.1.1)]) (λ_=>[]) (λq=>a.length-q.1.1) ⟨(0,false),aj _,by simpa using hA⟩ ?_ (λ_=>aj _) ?_
   ·simp only[go_sem,bC,cS]
   ·rintro ⟨⟨k,an⟩,hk,nR⟩;simp only at hk nR;by_cases ov:(k:Int)<a.length
    ·have lD:k<a.length:=by omega
     have lE:=W1' k (by omega)
     have g2:(List.map Tm.aH a).getD k .undef=a[k].aH:=jT lD;have hc:=AJ _ (ay lD);rw[ai lD,dI]at nR;generalize a[k]=x at *
     simp only[go_sem,ov,ao];refine aC.draw [] 0 0 mixed rfl rfl (by decide) ?_;cases an with
     |true =>
      simp only[go_sem,cM];refine aC.g ?_;simp only[go_sem,lE];refine⟨⟨(k+1,true),by simp only;omega,by simpa using nR⟩,?_,by simp only;omega⟩;simp only[go_sem,bC,cS]
     |false =>
      rw[cD]at nR;simp only[go_sem,cM,g1,g2,dO,bx,ov,ao]
      (repeat((with_reducible refine And.intro ?_ ?_);·omega))
      refine jS hc (by(try simp only[cq]);exact bL _ _ _) ⟨cS _,cV _,cV _,trivial⟩ ?_
      simp only[go_sem];refine aC.g ?_;simp only[go_sem,lE];refine⟨⟨(k+1,gt x y),by simp only;omega,nR⟩,?_,by simp only;omega⟩;simp only[go_sem,bC,cS]
    ·have Jr:k=a.length:=by omega
     subst Jr;rw[aJ,fD,fX]at nR;subst nR;simp only[go_sem,ov,ao];refine aC.g ?_;cases an with
     |true =>
      rw[bO]at aD;simp only[go_sem,hw];refine⟨⟨i+1,by omega,aD⟩,?_,by simp only;omega⟩;simp only[go_sem,bC,cS]
     |false =>
      rw[bU]at aD;subst aD;simp only[go_sem];refine aC.g ?_;simp only[go_sem]
  ·have dm:i=b.length:=by omega
   subst dm;rw[aJ]at aD;have aD:decide (0<a.length)=Z:=by rw[<-aD];simp[mY]
   subst aD;simp only[go_sem,bx,ao];refine aC.g ?_;simp only[go_sem,ao];congr 1;simp
theorem TP (g:List Sy) (a b:List Li) (gt:Li->Li->Int) (iz:∀x∈a,∀y∈b,az Tryz.prog 235 [.ps 4 (syms g),x.aH,y.aH] (.int .i64 (gt x y))) (ha:a.length<1000000) (hb:b.length<1000000) :
  az Tryz.prog 222 [.ps 4 (syms g),.ps 5 (lits a),.ps 5 (lits b)] (.bool (mY (λx y=>decide (gt x y=1)) a b)):=by
 refine az.begin (rs:=[.tmp 6]) (m:=38) 1000 Tryz.func222 rfl rfl rfl (by decide) trivial ?_;obtain⟨Z,hZ⟩:∃Z,mY (λx y=>decide (gt x y=1)) a b=Z:=⟨_,rfl⟩;rw[hZ];simp only[go_sem];refine aC.cA (ι:={i:Nat // i<=b.length/\mY (λx y=>decide (gt x y=1)) a (b.drop i)=Z}) 1000 (λq=>dV 41 [(0,.ps 4 (syms g)),(1,.ps 5 (lits a)),(2,.ps 5 (lits b)),(6,.bool false),(7,.int .i64 q.1)]) (λ_=>[]) (λq=>b.length-q.1) ⟨0,aj _,hZ⟩ ?_ (λ_=>aj _) ?_
 ·simp only[go_sem,bI,cS]
 ·rintro ⟨i,hi,aD⟩;by_cases bx:(i:Int)<b.length
  ·have aL:i<b.length:=by omega
   have hw:=W1' i (by omega)
   have g1:(lits b).getD i .undef=b[i].aH:=jT aL;have AJ:=λx hx=>iz x hx _ (ay aL);rw[ai aL,Ph]at aD;generalize b[i]=y at *
   obtain⟨A,hA⟩:∃A,(a.any λx=>decide (gt x y=1))=A:=⟨_,rfl⟩;rw[hA]at aD;simp only[go_sem,bx,dA];refine aC.cA (ι:={q:Nat×Bool // q.1<=a.length/\(q.2||(a.drop q.1).any λx=>decide (gt x y=1))=A}) 1000 (λq=>dV 41 [(0,.ps 4 (syms g)),(1,.ps 5 (lits a)),(2,.ps 5 (lits b)),(6,.bool false),(7,.int .i64 i),(8,.bool q.1.2),(9,.int .i64 q.1.1)]) (λ_=>[]) (λq=>a.length-q.1.1) ⟨(0,false),aj _,by simpa using hA⟩ ?_ (λ_=>aj _) ?_
   ·simp only[go_sem,bI,cS]
   ·rintro ⟨⟨k,an⟩,hk,nR⟩;simp only at hk nR;by_cases ov:(k:Int)<a.length
    ·have lD:k<a.length:=by omega
     have lE:=W1' k (by omega)
     have g2:(lits a).getD k .undef=a[k].aH:=jT lD;have hc:=AJ _ (ay lD);rw[ai lD,dI]at nR;generalize a[k]=x at *
     simp only[go_sem,ov,dA];refine aC.draw [] 0 0 mixed rfl rfl (by decide) ?_;cases an with
     |true =>
      simp only[go_sem,cM];refine aC.g ?_;simp only[go_sem,lE];refine⟨⟨(k+1,true),by simp only;omega,by simpa using nR⟩,?_,by simp only;omega⟩;simp only[go_sem,bI,cS]
     |false =>
      rw[cD]at nR;simp only[go_sem,cM,g1,g2,gf,bx,ov,dA]
      (repeat((with_reducible refine And.intro ?_ ?_);·omega))
      refine jS hc (bL _ _ _) ⟨cS _,jU _,jU _,trivial⟩ ?_;simp only[go_sem];refine aC.g ?_;simp only[go_sem,lE];refine⟨⟨(k+1,decide (gt x y=1)),by simp only;omega,nR⟩,?_,by simp only;omega⟩;simp only[go_sem,bI,cS]
    ·have Jr:k=a.length:=by omega
     subst Jr;rw[aJ,fD,fX]at nR;subst nR;simp only[go_sem,ov,dA];refine aC.g ?_;cases an with
     |true =>
      rw[bO]at aD;simp only[go_sem,hw];refine⟨⟨i+1,by omega,aD⟩,?_,by simp only;omega⟩;simp only[go_sem,bI,cS]
     |false =>
      rw[bU]at aD;subst aD;simp only[go_sem];refine aC.g ?_;simp only[go_sem]
  ·have dm:i=b.length:=by omega
   subst dm;rw[aJ]at aD;have aD:decide (0<a.length)=Z:=by rw[<-aD];simp[mY]
   subst aD;simp only[go_sem,bx,dA];refine aC.g ?_;simp only[go_sem,dA];congr 1;simp
theorem XU (a b:Li) (ha:sY a) (hb:sY b):az Tryz.prog 115 [a.aH,b.aH] (.bool (mh a b)):=by
 refine az.begin (rs:=[.tmp 4]) (m:=29) 1000 Tryz.func115 rfl rfl rfl (by decide) trivial ?_;obtain⟨a1,a2⟩:=ha;obtain⟨b1,b2⟩:=hb;have s1:=BP a.l b.l (by omega) (by omega);have s2:=BP a.r b.r (by omega) (by omega);have s3:=BP a.l b.r (by omega) (by omega);have s4:=BP a.r b.l (by omega) (by omega);unfold mh;generalize decide (a.l=b.l)=p1 at *
 generalize decide (a.r=b.r)=p2 at *
 generalize decide (a.l=b.r)=p3 at *
 generalize decide (a.r=b.l)=p4 at *
 simp only[go_sem,gf];refine ak.bm [] (s1) (by(try simp only[cq]);exact bL _ _ _) (by simp[go_sem,cV,bC]) ?_;simp only[bj,bA,bz,if_true];refine aC.g ?_
 cases p1
 ·simp only[go_sem];refine ak.bm [] (s3) (by(try simp only[cq]);exact bL _ _ _) (by simp[go_sem,cV,bC]) ?_;simp only[bj,bA,bz,if_true];refine aC.g ?_
  cases p3
  ·simp only[go_sem,bU,fX]
  ·simp only[go_sem];refine ak.bm [] (s4) (by(try simp only[cq]);exact bL _ _ _) (by simp[go_sem,cV,bC]) ?_;simp only[bj,bA,bz,if_true];refine aC.g ?_
   simp only[go_sem,bU,cD,bO]
 ·simp only[go_sem];refine ak.bm [] (s2) (by(try simp only[cq]);exact bL _ _ _) (by simp[go_sem,cV,bC]) ?_;simp only[bj,bA,bz,if_true];refine aC.g ?_
  cases p2
  ·simp only[go_sem];refine ak.bm [] (s3) (by(try simp only[cq]);exact bL _ _ _) (by simp[go_sem,cV,bC]) ?_;simp only[bj,bA,bz,if_true];refine aC.g ?_
   cases p3
   ·simp only[go_sem,bU,f_,fX]
   ·simp only[go_sem];refine ak.bm [] (s4) (by(try simp only[cq]);exact bL _ _ _) (by simp[go_sem,cV,bC]) ?_;simp only[bj,bA,bz,if_true];refine aC.g ?_
    simp only[go_sem,f_,cD,bO]
  ·simp only[go_sem,m9,dE]
theorem Ox (a b:Li)(ha:sY a)(hb:sY b):az Tryz.prog 77 [a.aH,b.aH] (.bool (dv a b)):=by
 refine az.begin (rs:=[.tmp 4]) (m:=13) 1000 Tryz.func77 rfl rfl rfl (by decide) trivial ?_;have h:=XU a b ha hb;unfold dv;simp only[go_sem,gf];have hd:decide (a.neg=b.neg)=(a.neg==b.neg):=rfl;rw[hd];cases c:a.neg==b.neg
 ·simp only[go_sem,c,bU]
 ·simp only[go_sem,c];refine ak.bm [] h (bL _ _ _) ⟨jU _,jU _,trivial⟩ ?_;simp only[bj,bA,bz,if_true];refine aC.g ?_;simp only[go_sem,bO]
theorem Ty (l:Li):az Tryz.prog 246 [l.aH] (.ps 2 ((kO l).map Tm.aH)):=by
 refine az.begin (rs:=[.tmp 2]) (m:=18) 1000 Tryz.func246 rfl rfl rfl (by decide) (bC _) ?_;unfold kO;cases h:l.neg
 ·simp only[go_sem,gf,h,aX,if_false,aI,aR];rw[cq l.l,cq l.r];exact⟨nH _ _ _,nH _ _ _⟩
 ·simp only[go_sem,gf,h,if_true,aI,aR];rw[cq l.l,cq l.r]
  repeat (first|exact nH _ _ _|exact bL _ _ _|refine⟨nH _ _ _,?_⟩)
def vP {α:Type}(same gt : α->α->Bool)(a b:List α):Int :=
 if (pO same b a (List.replicate b.length false)).length+(pO same a b (List.replicate a.length false)).length=0 then 0 else
 if mY gt (pO same b a (List.replicate b.length false)) (pO same a b (List.replicate a.length false))=true then 1 else
 if mY gt (pO same a b (List.replicate a.length false)) (pO same b a (List.replicate b.length false))=true then -1 else 2
theorem G9 {α:Type} (same : α->α->Bool) (b:List α):∀(a:List α) (us:List Bool),∀x∈pO same b a us,x∈a
 |[],us,x,h=>by rw[pO]at h;cases h
 | y :: a,us,x,h=>by
  rw[pO]at h;split at h
  ·rcases aU.1 h with rfl|h
   ·simp
   ·exact ct _ (G9 same b a us x h)
  ·exact ct _ (G9 same b a _ x h)
theorem G7 {α:Type} (same : α->α->Bool) (b:List α):∀(a:List α) (us:List Bool),(pO same b a us).length<=a.length
 |[],us=>by rw[pO];exact ae _
 |y :: a,us=>by
  rw[pO];split
  ·have:=G7 same b a us;simp only[aq];omega
  ·rename_i k _;have:=G7 same b a (us.set k true);simp only[aq];omega
theorem Yp8 (g:List Sy) (a b:List Tm) (ha:∀x∈a,iP g x) (hb:∀x∈b,iP g x) (qi:a.length<400000) (AW:b.length<400000) :
  az Tryz.prog 245 [.ps 4 (syms g),.ps 2 (a.map Tm.aH),.ps 2 (b.map Tm.aH)] (.int .i64 (vP pa (Tm.gr g) a b)):=by
 refine az.begin (rs:=[.tmp 6]) (m:=26) 1000 Tryz.func245 rfl rfl rfl (by decide) trivial ?_;have sV:∀x y:Tm,iP g x->iP g y->az Tryz.prog 88 [x.aH,y.aH] (.bool (pa x y)):=λx y hx hy=>BP x y (by have:=(my hx).2;omega) (by have:=(my hy).2;omega);have w1:=T3 a b (λx hx y hy=>sV x y (ha x hx) (hb y hy)) (by omega) (by omega);have w2:=T3 b a (λx hx y hy=>sV x y (hb x hx) (ha y hy)) (by omega) (by omega);have m1:=G9 pa b a (List.replicate b.length false);have m2:=G9 pa a b (List.replicate a.length false);have l1:=G7 pa b a (List.replicate b.length false);have l2:=G7 pa a b (List.replicate a.length false);unfold vP;generalize pO pa b a (List.replicate b.length false)=x at *
 generalize pO pa a b (List.replicate a.length false)=y at *
 have o1:=Tw g x y (Tm.gr g) (λu hu v hv=>KE g _ u v (ae _) (ha u (m1 u hu)) (hb v (m2 v hv))) (by omega) (by omega);have o2:=Tw g y x (Tm.gr g) (λu hu v hv=>KE g _ u v (ae _) (hb u (m2 u hu)) (ha v (m1 v hv))) (by omega) (by omega);have hw:IntKind.i64.wrap ((x.length:Int)+y.length)=(x.length:Int)+y.length:=dt (by omega);have e1:(mY (λx y=>Tm.gr g x y) x y)=mY (Tm.gr g) x y:=rfl;have e2:(mY (λx y=>Tm.gr g x y) y x)=mY (Tm.gr g) y x:=rfl;rw[e1]at o1;rw[e2]at o2;simp only[go_sem];refine ak.bm [] (w1) (by(try simp only[cq]);exact bL _ _ _) (by simp[go_sem,cV,bC]) ?_;rw[eW];simp only[ite_self];refine aC.g ?_
 simp only[go_sem];refine ak.bm [] (w2) (by(try simp only[cq]);exact bL _ _ _) (by simp[go_sem,cV,bC]) ?_;rw[eW];simp only[ite_self];refine aC.g ?_
 by_cases h0:x.length+y.length=0
 ·rw[if_pos h0];have Aw:(x.length:Int)+y.length=0:=by omega
  have Cc:IntKind.i64.wrap 0=0:=dt (by omega);simp only[go_sem,hw,Aw,Cc]
 ·rw [if_neg h0];have Aw:¬(x.length:Int)+y.length=0:=by omega
  simp only[go_sem,hw,Aw];refine ak.bm [] (o1) (bL _ _ _) (by simp[go_sem,cS,bC]) ?_;simp only[bj,bA,bz,if_true];refine aC.g ?_;cases h1:mY (Tm.gr g) x y with
  |true=>simp only[go_sem]
  |false =>
   simp only[go_sem];refine ak.bm [] (o2) (bL _ _ _) (by simp[go_sem,cS,bC]) ?_;simp only[bj,bA,bz,if_true];refine aC.g ?_;cases h2:mY (Tm.gr g) y x with
   |true=>simp only[go_sem]
   |false=>simp only[go_sem]
def yd (g:List Sy)(a b:Li):Int:=vP pa (Tm.gr g) (kO a) (kO b)
def sZ (g:List Sy)(l:Li):Prop:=iP g l.l/\iP g l.r
theorem LV {g:List Sy}{l:Li}(h:sZ g l):∀x∈kO l,iP g x:=λx hx=>by
 rcases Ps hx with rfl|rfl
 ·exact h.1
 ·exact h.2
theorem WV (g:List Sy)(a b:Li)(ha:sZ g a)(hb:sZ g b):az Tryz.prog 235 [.ps 4 (syms g),a.aH,b.aH] (.int .i64 (yd g a b)):=by
 refine az.begin (rs:=[.tmp 6]) (m:=10) 1000 Tryz.func235 rfl rfl rfl (by decide) trivial ?_;have r1:=Ty a;have r2:=Ty b;have l1:=Ll a;have l2:=Ll b;have h:=Yp8 g (kO a) (kO b) (LV ha) (LV hb) (by omega) (by omega);unfold yd;generalize vP pa (Tm.gr g) (kO a) (kO b)=z at *
 simp only[go_sem,gf];refine aC.draw [] 2 2 mixed rfl rfl (by decide) ?_;simp only[go_sem,cM];refine jS r1 (bL _ _ _) ⟨jU _,trivial⟩ ?_;simp only[go_sem];refine jS r2 (bL _ _ _) ⟨jU _,trivial⟩ ?_;simp only[go_sem];refine jS h (bL _ _ _) ⟨cS _,bC _,bC _,trivial⟩ ?_;simp only[go_sem];refine aC.g ?_;simp only[go_sem]
def ub (g:List Sy)(c d:List Li):Int:=vP dv (λx y=>decide (yd g x y=1)) c d
theorem Zvx (g:List Sy) (a b:List Li) (ha:∀x∈a,sZ g x) (hb:∀x∈b,sZ g x) (qi:a.length<400000) (AW:b.length<400000) :
  az Tryz.prog 204 [.ps 4 (syms g),.ps 5 (lits a),.ps 5 (lits b)] (.int .i64 (ub g a b)):=by
 refine az.begin (rs:=[.tmp 6]) (m:=26) 1000 Tryz.func204 rfl rfl rfl (by decide) trivial ?_;have jB:∀x:Li,sZ g x->sY x:=λx hx=>by
  have h1:=(my hx.1).2;have h2:=(my hx.2).2;exact⟨by omega,by omega⟩
 have w1:=Tt a b (λx hx y hy=>Ox x y (jB x (ha x hx)) (jB y (hb y hy))) (by omega) (by omega);have w2:=Tt b a (λx hx y hy=>Ox x y (jB x (hb x hx)) (jB y (ha y hy))) (by omega) (by omega);have m1:=G9 dv b a (List.replicate b.length false);have m2:=G9 dv a b (List.replicate a.length false);have l1:=G7 dv b a (List.replicate b.length false);have l2:=G7 dv a b (List.replicate a.length false);unfold ub vP;generalize pO dv b a (List.replicate b.length false)=x at *
 generalize pO dv a b (List.replicate a.length false)=y at *
 have o1:=TP g x y (yd g) (λu hu v hv=>WV g u v (ha u (m1 u hu)) (hb v (m2 v hv))) (by omega) (by omega);have o2:=TP g y x (yd g) (λu hu v hv=>WV g u v (hb u (m2 u hu)) (ha v (m1 v hv))) (by omega) (by omega);have hw:IntKind.i64.wrap ((x.length:Int)+y.length)=(x.length:Int)+y.length:=dt (by omega);generalize rY:mY (λx y=>decide (yd g x y=1)) x y=z1 at *
 generalize rE:mY (λx y=>decide (yd g x y=1)) y x=z2 at *
 simp only[go_sem];refine ak.bm [] (w1) (bL _ _ _) (by simp[go_sem,bI]) ?_;rw[eW];simp only[ite_self];refine aC.g ?_;simp only[go_sem];refine ak.bm [] (w2) (bL _ _ _) (by simp[go_sem,bI]) ?_;rw[eW];simp only[ite_self];refine aC.g ?_;by_cases h0:x.length+y.length=0
 ·rw[if_pos h0];have Aw:(x.length:Int)+y.length=0:=by omega
  have Cc:IntKind.i64.wrap 0=0:=dt (by omega);simp only[go_sem,hw,Aw,Cc,dA]
 ·rw [if_neg h0];have Aw:¬(x.length:Int)+y.length=0:=by omega
  simp only[go_sem,hw,Aw,dA];refine ak.bm [] (o1) (bL _ _ _) (by simp[go_sem,cS,bI]) ?_;simp only[bj,bA,bz,if_true];refine aC.g ?_;cases z1 with
  |true=>simp only[go_sem]
  |false =>
   simp only[go_sem];refine ak.bm [] (o2) (bL _ _ _) (by simp[go_sem,cS,bI]) ?_;simp only[bj,bA,bz,if_true];refine aC.g ?_;cases z2 with
   |true=>simp only[go_sem]
   |false=>simp only[go_sem]
def ek (l:Li)(n:Int):Tm×Tm:=if n=0 then (l.l,l.r) else (l.r,l.l)
theorem PC (l:Li)(n:Int):az Tryz.prog 148 [l.aH,.int .i64 n] (.dw [(ek l n).1.aH,(ek l n).2.aH]):=by
 refine az.begin (rs:=[.cell 4 70,.cell 5 70]) (m:=14) 1000 Tryz.func148 rfl rfl rfl (by decide) ⟨cV _,cV _,trivial⟩ ?_;unfold ek;by_cases h:n=0
 ·rw[if_pos h];simp only[go_sem,gf,h];refine aC.draw [.no,.no,⟨none,[],[1]⟩,⟨none,[],[1]⟩,⟨none,[1],[]⟩,⟨none,[2],[]⟩] 3 3 mixed rfl rfl (by decide) ?_;simp only[go_sem,cM];refine aC.g ?_;simp only[go_sem];rw[cq l.l,cq l.r];exact⟨nH _ _ _,nH _ _ _⟩
 ·rw[if_neg h];simp only[go_sem,gf,h];refine aC.draw [.no,.no,⟨none,[],[1]⟩,⟨none,[],[1]⟩,⟨none,[1],[]⟩,⟨none,[2],[]⟩] 3 3 mixed rfl rfl (by decide) ?_;simp only[go_sem,cM];refine aC.g ?_;simp only[go_sem];rw[cq l.l,cq l.r];exact⟨nH _ _ _,nH _ _ _⟩
theorem Ydw (a b:Tm) (ha:vj a) (hb:vj b):az Tryz.prog 201 [a.aH,b.aH] (.bool (within a b)):=by
 refine az.begin (rs:=[.tmp 4]) (m:=23) 1000 Tryz.func201 rfl rfl rfl (by decide) trivial ?_;have h1:=ha.2;have h2:=hb.2;have hv:=LU a ha.1 (by omega);have Cc:=LU b hb.1 (by omega);have Er:=EU a;have FZ:=EU b;unfold within;generalize a.vars=vs at *
 generalize b.vars=us at *
 obtain⟨Z,hZ⟩:∃Z,(vs.all λv=>decide (v∈us))=Z:=⟨_,rfl⟩;rw[hZ];simp only[go_sem,dO];refine ak.bm [] (hv) (by(try simp only[cq]);exact bL _ _ _) (by simp[go_sem,cV,bC]) ?_;rw[eW];simp only[ite_self];refine aC.g ?_
 simp only[go_sem,dO];refine ak.bm [] (Cc) (by(try simp only[cq]);exact bL _ _ _) (by simp[go_sem,cV,bC]) ?_;rw[eW];simp only[ite_self];refine aC.g ?_
 simp only[go_sem];refine aC.cA (ι:={i:Nat // i<=vs.length/\((vs.drop i).all λv=>decide (v∈us))=Z}) 1000 (λq=>dV 25 [(4,.bool false),(5,.ps 1 (ints vs)),(6,.ps 1 (ints us)),(7,.int .i64 q.1)])
  (λ_=>[]) (λq=>vs.length-q.1) ⟨0,aj _,hZ⟩ ?_ (λ_=>aj _) ?_
 ·simp only[go_sem,cY]
 ·rintro⟨i,hi,aD⟩;by_cases bx:(i:Int)<vs.length
  ·have aL:i<vs.length:=by omega
   have hw:=W1' i (by omega)
   have g1:=vu aL;have fA:=Nd vs[i] us (by omega);rw[ai aL,h_]at aD;generalize vs[i]=v at *
   simp only[go_sem,bx,ja,g1]
   (repeat((with_reducible refine And.intro ?_ ?_);·omega))
   refine ak.bm [] (fA) (bL _ _ _) (by simp[go_sem,cY]) ?_;simp only[bj,bA,bz,if_true];refine aC.g ?_;by_cases e:v∈us
   ·rw[decide_eq_true e,bO]at aD;simp only[go_sem,e,hw];refine⟨⟨i+1,by omega,aD⟩,?_,by simp only;omega⟩;simp only[go_sem,cY]
   ·rw[decide_eq_false e,bU]at aD;subst aD;simp only[go_sem,e];refine aC.g ?_;simp only[go_sem]
  ·have dm:i=vs.length:=by omega
   subst dm;rw[aJ]at aD;have aD:true=Z:=aD;subst aD;simp only[go_sem,bx,ja];refine aC.g ?_;simp only[go_sem]
theorem Yux {c:List Li}(h:(c.length:Int)≠1):u_ c=false:=by
 unfold u_;split
 ·simp at h
 ·rfl
theorem Yof (c:List Li) (hc:c.length<1000000):az Tryz.prog 178 [.ps 5 (lits c)] (.bool (u_ c)):=by
 refine az.begin (rs:=[.tmp 2]) (m:=12) 1000 Tryz.func178 rfl rfl rfl (by decide) trivial ?_;by_cases c1:(c.length:Int)=1
 ·obtain ⟨e,rfl⟩:=List.length_eq_one_iff.1 (show c.length=1 by omega);cases dP:e.neg with
  |true =>
   have hu:u_ [e]=false:=by simp[u_,dP]
   rw[hu];simp only[go_sem,show lits [e]=[e.aH] from rfl,gf,dP]
  |false =>
   have hu:u_ [e]=true:=by simp[u_,dP]
   rw[hu];simp only[go_sem,show lits [e]=[e.aH] from rfl,gf,dP]
 ·rw[Yux c1];simp only[go_sem,dA,c1]
theorem Yj8 (g:List Sy) (es:List (List Li)) (c:List Li) (kp:∀x∈c :: es,oY x) (hl:es.length<1000000):az Tryz.prog 120 [.ps 4 (syms g),.ps 1 (c9 es),.ps 5 (lits c)] (.int .i64 (cm g (c :: es))):=by
 refine az.begin (rs:=[.tmp 6]) (m:=26) 1000 Tryz.func120 rfl rfl rfl (by decide) trivial ?_;have p7:∀x∈c :: es,az Tryz.prog 16 [.ps 4 (syms g),.ps 5 (lits x)] (.int .i64 (aW g x)):=λx hx=>HM g x (λi hi=>by have:=kp x hx i hi;omega);have h1:=p7 c (by simp);obtain⟨Z,hZ⟩:∃Z,cm g (c :: es)=Z:=⟨_,rfl⟩;rw[hZ];simp only[go_sem];refine ak.bm [] (h1) (bL _ _ _) (by simp[go_sem,cS,bI]) ?_;simp only[bj,bA,bz,if_true];refine aC.g ?_;simp only[go_sem];refine aC.cA (ι:={q:Nat×Int // q.1<=es.length/\(if q.2≠0 then q.2 else cm g (es.drop q.1))=Z}) 1000 (λq=>dV 29 [(0,.ps 4 (syms g)),(1,.ps 1 (c9 es)),(6,.int .i64 0),(7,.int .i64 q.1.2),(8,.int .i64 q.1.1)])
  (λ_=>[]) (λq=>es.length-q.1.1) ⟨(0,aW g c),aj _,by rw[cm]at hZ;exact hZ⟩ ?_ (λ_=>aj _) ?_
 ·simp only[go_sem,cS,eh]
 ·rintro ⟨⟨i,e⟩,hi,aD⟩;simp only at hi aD;by_cases bx:(i:Int)<es.length
  ·have aL:i<es.length:=by omega
   have hw:=W1' i (by omega)
   have g1:=yn aL;have lS:=p7 _ (ct _ (ay aL));rw[ai aL,cm]at aD;generalize es[i]=d at *
   by_cases e0:e=0
   ·subst e0;rw[if_neg (by simp)]at aD;simp only[go_sem,bx,lP,g1]
    (repeat((with_reducible refine And.intro ?_ ?_);·omega))
    refine ak.bm [] (lS) (bL _ _ _) (by simp[go_sem,cS,bI]) ?_;simp only[bj,bA,bz,if_true];refine aC.g ?_;simp only[go_sem,hw];refine⟨⟨(i+1,aW g d),by simp only;omega,aD⟩,?_,by simp only;omega⟩;simp only[go_sem,cS,eh]
   ·rw[if_pos e0]at aD;subst aD;simp only[go_sem,bx,lP,e0];refine aC.g ?_;simp only[go_sem]
  ·have dm:i=es.length:=by omega
   subst dm;rw[aJ,cm]at aD;have aD:e=Z:=by rw[<-aD];split<;>omega
   subst aD;simp only[go_sem,bx,lP];refine aC.g ?_;simp only[go_sem]
theorem PX {P:Tm->Prop}{s:List Bd}(h:∀b∈s,P b.t){v:Int}(hv:P (.mk (-1-v) [])):P (ng s v):=by
 unfold ng;cases hf:s.find? (λb=>b.v==v) with
 |some b=>exact h b (ck hf)
 |none=>exact hv
theorem Ysl (v:Nat)(h:v<256):vj (.mk (-1-(v:Int)) []):=⟨⟨by unfold nj;omega,trivial⟩,by simp[Tm.size,Tm.bw]⟩
theorem Ylu {s:List Bd}(h:∀b∈s,vj b.t):∀b∈nD s,vj b.t/\0<=b.v/\b.v<=255:=λb hb=>by
 unfold nD mO at hb;obtain⟨v,hv,he⟩:=List.mem_filterMap.1 hb;have hv:=cd.1 hv;unfold rO at he;split at he
 ·cases he
 ·cases he;exact⟨PX h (Ysl v hv),by simp only;omega,by simp only;omega⟩
theorem Yhh (s:List Bd):(nD s).length<=256:=by
 unfold nD mO;have:=pQ (rO s) (List.range 256);simpa using this
theorem UC {l u:Tm} (hu:vj u):(∀b∈(ft [l] [u]).1,vj b.t/\0<=b.v/\b.v<=255)/\(ft [l] [u]).1.length<=256:=by
 unfold ft;split
 ·exact⟨λb hb=>(by cases hb),by simp⟩
 split
 ·exact⟨λb hb=>(by cases hb),by simp⟩
 ·refine⟨Ylu λb hb=>?_,Yhh _⟩;unfold ot at hb;split at hb
  ·exact K6 (P:=vj) H6 [l] [u] [] (λx hx=>by rw[aK.1 hx];exact hu) (λb hb=>by cases hb) b hb
  ·cases hb
mutual
theorem Ks {bs:List Bd} (hb:∀b∈bs,vj b.t):∀t:Tm,t.good=true->t.fit->(t.pd bs).fit/\(t.pd bs).size<=t.size*400
 | .mk h ts,hg,hf=>by
  have hh:=zE hg;rw[Tm.pd];split
  ·have:vj (ng bs (-1-h)):=PX hb ⟨⟨by have:=hh.1;simp only[Tm.head]at this;unfold nj;omega,trivial⟩,by simp[Tm.size,Tm.bw]⟩;exact⟨this.1,by have:=this.2;rw[Tm.size];omega⟩
  ·have oA:Tm.fy ts=true:=by rw[Tm.good,aG]at hg;exact hg.2
   obtain⟨a1,a2⟩:=U4 hb ts oA hf.2;exact⟨⟨hf.1,a1⟩,by rw[Tm.size,Tm.size];omega⟩
theorem U4 {bs:List Bd} (hb:∀b∈bs,vj b.t):∀ts:List Tm,Tm.fy ts=true->Tm.fits ts->Tm.fits (Tm.Ch bs ts)/\Tm.bw (Tm.Ch bs ts)<=Tm.bw ts*400
 |[],_,_=>⟨trivial,by simp[Tm.Ch,Tm.bw]⟩
 |t :: ts,hg,hf=>by
  rw[Tm.fy,aG]at hg;obtain⟨a1,a2⟩:=Ks hb t hg.1 hf.1;obtain⟨b1,b2⟩:=U4 hb ts hg.2 hf.2;rw[Tm.Ch];exact⟨⟨a1,b1⟩,by rw[Tm.bw,Tm.bw];omega⟩
end
def nN (x y:Tm):Li:=⟨false,x,y⟩
def iJ (g:List Sy) (e:Li) (n:Int) (u:Tm) (c:List Li):Tm×Bool :=
 if (ek e n).1.head=0\/(ek e n).1.cy g≠u.cy g\/within (ek e n).2 (ek e n).1=false then (u,false) else
 if (ft [(ek e n).1] [u]).2.2≠0\/(ft [(ek e n).1] [u]).2.1=false then (u,false) else
 if aW g [nN ((ek e n).1.pd (ft [(ek e n).1] [u]).1) ((ek e n).2.pd (ft [(ek e n).1] [u]).1)]≠0 /\
  aW g [nN ((ek e n).2.pd (ft [(ek e n).1] [u]).1) ((ek e n).1.pd (ft [(ek e n).1] [u]).1)]≠0 then (u,false) else
 if ((ek e n).1.pd (ft [(ek e n).1] [u]).1).gr g ((ek e n).2.pd (ft [(ek e n).1] [u]).1)=false \/
  ub g [nN ((ek e n).1.pd (ft [(ek e n).1] [u]).1) ((ek e n).2.pd (ft [(ek e n).1] [u]).1)] c≠-1 then (u,false) else
 ((ek e n).2.pd (ft [(ek e n).1] [u]).1,true)
theorem HK {g:List Sy}{x y:Tm}(h:aW g [nN x y]=0):x.term g=0/\y.term g=0:=by
 have h1:=(uy h).2.2 (nN x y) (by simp);exact DK h1
set_option maxHeartbeats 1000000 in
theorem Yl8 (g:List Sy) (e:Li) (n:Int) (u:Tm) (c:List Li) (hl:iP g (ek e n).1) (hr:iP g (ek e n).2) (hu:iP g u) (hc:∀x∈c,sZ g x) (gM:c.length<400000) :
  az Tryz.prog 179 [.ps 4 (syms g),e.aH,.int .i64 n,u.aH,.ps 5 (lits c)] (.dw [(iJ g e n u c).1.aH,.bool (iJ g e n u c).2]):=by
 refine az.begin (rs:=[.cell 10 70,.tmp 11]) (m:=92) 1000 Tryz.func179 rfl rfl rfl (by decide) ⟨cV _,trivial,trivial⟩ ?_;have tO:=PC e n;obtain⟨Z,hZ⟩:∃Z,iJ g e n u c=Z:=⟨_,rfl⟩;rw[hZ];unfold iJ at hZ;generalize (ek e n).1=l at *
 generalize (ek e n).2=r at *
 have sl:=my hl;have sr:=my hr;have su:=my hu;have gl:=(qZ (n_ hl.1).1).2.2;have gr:=(qZ (n_ hr.1).1).2.2;have t1:=Ie g l;have t2:=Ie g u;have t3:=Ydw r l sr sl;have hma:=Yj5 l u (by have:=sl.2;omega) (by have:=su.2;omega);obtain⟨mb,ml⟩:=UC (l:=l) su;generalize ft [l] [u]=m at *
 have p1:=LK m.1 (by omega) l gl (by have:=sl.2;omega);have p2:=LK m.1 (by omega) r gr (by have:=sr.2;omega);obtain⟨x1,x2⟩:=Ks (λb hb=>(mb b hb).1) l gl sl.1;obtain⟨y1,y2⟩:=Ks (λb hb=>(mb b hb).1) r gr sr.1;generalize l.pd m.1=x at *
 generalize r.pd m.1=y at *
 have MJ:x.size<=160000:=by have:=aZ 400 sl.2;omega
 have zX:y.size<=160000:=by have:=aZ 400 sr.2;omega
 have k1:=HM g [nN x y] (λi hi=>by
  have:i=0:=by simpa using hi
  subst this;simp only[d_,nN];omega)
 have k2:=HM g [nN y x] (λi hi=>by
  have:i=0:=by simpa using hi
  subst this;simp only[d_,nN];omega)
 have e1:lits [nN x y]=[.agg [.bool false,.int .i64 x.head,.ps 2 (x.args.map Tm.aH),.int .i64 y.head,.ps 2 (y.args.map Tm.aH)]]:=rfl;have e2:lits [nN y x]=[.agg [.bool false,.int .i64 y.head,.ps 2 (y.args.map Tm.aH),.int .i64 x.head,.ps 2 (x.args.map Tm.aH)]]:=rfl;simp only[go_sem,gf,dO];refine ak.bm [] tO (bL _ _ _) ⟨jU _,trivial,trivial⟩ ?_;rw[eW];simp only[ite_self];refine aC.g ?_;simp only[go_sem,dO];have fin:∀(t:Tm) (S:av) (b:Bool),mD (λ_=>true) S [t.aH,.bool b] [.agg [.int .i64 t.head,.ps 2 (t.args.map Tm.aH)],.bool b]:=λt S b=>by rw[cq];exact bL _ _ _
 by_cases h0:l.head=0
 ·rw [if_pos (.inl h0)]at hZ;subst hZ;refine aC.draw [] 5 5 mixed rfl rfl (by decide) ?_;simp only[go_sem,cM,h0];refine aC.g ?_;simp only[go_sem]
  first
   |done
   |exact fin _ _ _
   |(rw[cq];exact nH _ _ _)
   |(rw[cq];exact bL _ _ _)
   |trace_state
 ·refine aC.draw [] 5 5 mixed rfl rfl (by decide) ?_;simp only[go_sem,cM,h0];refine jS (t1) (by(try simp only[cq]);exact bL _ _ _) (by simp[go_sem,cV,bC,cS]) ?_
  simp only[go_sem];refine jS (t2) (by(try simp only[cq]);exact bL _ _ _) (by simp[go_sem,cV,bC,cS]) ?_
  by_cases h1:l.cy g=u.cy g
  ·have ou:(l.cy g==u.cy g)=true:=by simp[h1]
   simp only[go_sem,ou];refine jS (t3) (by(try simp only[cq]);exact bL _ _ _) (by simp[go_sem,cV,bC]) ?_
   cases h2:within r l with
   | false =>
    rw[if_pos (.inr (.inr h2))]at hZ;subst hZ;simp only[go_sem];refine aC.g ?_;simp only[go_sem]
    first
     |done
     |exact fin _ _ _
     |(rw[cq];exact nH _ _ _)
     |(rw[cq];exact bL _ _ _)
     |trace_state
   | true =>
    rw[if_neg (λh=>h.elim h0 λh=>h.elim (λh=>h h1) λh=>by rw[h2]at h;cases h)]at hZ;simp only[go_sem];refine aC.g ?_;simp only[go_sem];refine ak.bm [] (hma) (by(try simp only[cq]);exact bL _ _ _) (by simp[go_sem,cV,bC]) ?_;rw[eW];simp only[ite_self];refine aC.g ?_
    by_cases h3:m.2.2=0
    ·cases h4:m.2.1 with
     | false =>
      rw[if_pos (.inr h4)]at hZ;subst hZ;simp only[go_sem,h3]
      first
       |done
       |exact fin _ _ _
       |(rw[cq];exact nH _ _ _)
       |(rw[cq];exact bL _ _ _)
       |trace_state
     | true =>
      rw[if_neg (λh=>h.elim (λh=>h h3) λh=>by rw[h4]at h;cases h)]at hZ;simp only[go_sem,h3,dO];refine ak.bm [] p1 (by(try simp only[cq]);exact bL _ _ _) ⟨of_eq_true (nq _),cV _,trivial⟩ ?_
      rw[eW];simp only[ite_self];refine aC.g ?_;simp only[go_sem,dO];refine ak.bm [] p2 (by(try simp only[cq]);exact bL _ _ _) ⟨of_eq_true (nq _),cV _,trivial⟩ ?_
      rw[eW];simp only[ite_self];refine aC.g ?_;simp only[go_sem,dO];have rd:∀(S:av) (a b:Tm) (i:Nat),bW S i=some (.row [.agg [.bool false,.int .i64 a.head,.ps 2 (a.args.map Tm.aH),.int .i64 b.head,.ps 2 (b.args.map Tm.aH)]] 0)->pT (among [i]) S (.ps 5 (lits [nN a b])) (.os i 0 1 5):=λS a b i hS=>by
       have e3:lits [nN a b]=[.agg [.bool false,.int .i64 a.head,.ps 2 (a.args.map Tm.aH),.int .i64 b.head,.ps 2 (b.args.map Tm.aH)]]:=rfl;rw[e3];simp only[go_sem,hS,k_,lb]
      refine ak.bm [7] k1 (by rw[aY,bf,yW,yW];exact⟨nH _ _ _,rd _ x y 7 rfl,by simp[go_sem]⟩) ⟨cS _,bI _,trivial⟩ ?_;simp only[bj,bA,bz,if_true];refine aC.g ?_;by_cases h5:aW g [nN x y]=0
      case' pos =>
       have vL:=HK h5;rw[if_neg (λh=>h.1 h5)]at hZ;simp only[go_sem,h5]
      case' neg =>
       simp only[go_sem,h5];refine ak.bm [8] k2 (by rw[aY,bf,yW,yW];exact⟨nH _ _ _,rd _ y x 8 rfl,by simp[go_sem]⟩) ⟨cS _,bI _,trivial⟩ ?_;simp only[bj,bA,bz,if_true];refine aC.g ?_;by_cases h6:aW g [nN y x]=0
       case' neg =>
        rw[if_pos ⟨h5,h6⟩]at hZ;subst hZ;simp only[go_sem,h6]
        first
         |done
         |exact fin _ _ _
         |(rw[cq];exact nH _ _ _)
         |(rw[cq];exact bL _ _ _)
         |trace_state
       have vL:=(HK h6).symm;rw[if_neg (λh=>h.2 h6)]at hZ;simp only[go_sem,h6]
      all_goals
       have rx:iP g x:=⟨vL.1,x1⟩;have ry:iP g y:=⟨vL.2,y1⟩;have q1:=KE g _ x y (ae _) rx ry;have q2:=Zvx g [nN x y] c (λz hz=>by rw[aK.1 hz];exact⟨rx,ry⟩) hc (by simp) gM;refine ak.bm [] q1 (by(try simp only[cq]);exact bL _ _ _) ⟨cS _,cV _,cV _,trivial⟩ ?_
       simp only[bj,bA,bz,if_true];refine aC.g ?_;cases h7:x.gr g y with
       | false =>
        rw[if_pos (.inl h7)]at hZ;subst hZ;simp only[go_sem]
        first
         |done
         |exact fin _ _ _
         |(rw[cq];exact nH _ _ _)
         |(rw[cq];exact bL _ _ _)
         |trace_state
       | true =>
        simp only[go_sem];refine ak.bm [7] q2 (by rw[aY,bf,yW,yW,yW];exact⟨nH _ _ _,rd _ x y 7 rfl,nH _ _ _,by simp[go_sem]⟩) ⟨cS _,bI _,bI _,trivial⟩ ?_;simp only[bj,bA,bz,if_true];refine aC.g ?_;by_cases h8:ub g [nN x y] c = -1
        ·rw [if_neg (λh=>h.elim (λh=>by rw[h7]at h;cases h) λh=>h h8)]at hZ;subst hZ;simp only[go_sem,h8]
         first
          |done
          |exact fin _ _ _
          |(rw[cq];exact nH _ _ _)
          |(rw[cq];exact bL _ _ _)
          |trace_state
        ·rw [if_pos (.inr h8)]at hZ;subst hZ;simp only[go_sem,h8]
         first
          |done
          |exact fin _ _ _
          |(rw[cq];exact nH _ _ _)
          |(rw[cq];exact bL _ _ _)
          |trace_state
    ·rw [if_pos (.inl h3)]at hZ;subst hZ;simp only[go_sem,h3]
     first
      |done
      |exact fin _ _ _
      |(rw[cq];exact nH _ _ _)
      |(rw[cq];exact bL _ _ _)
      |trace_state
  ·rw [if_pos (.inr (.inl h1))]at hZ;subst hZ;have ou:(l.cy g==u.cy g)=false:=by simpa using h1
   simp only[go_sem,ou];refine aC.g ?_;simp only[go_sem]
   first
    |done
    |exact fin _ _ _
    |(rw[cq];exact nH _ _ _)
    |(rw[cq];exact bL _ _ _)
    |trace_state
def vn (c:List Li)(i:Nat)(rt:Bool)(p:List Int)(t:Tm):List Li:=match c[i]? with
 |some l=>c.set i (l.rK rt ((l.side rt).jy p t))
 |none=>c
theorem Yku (c:List Li) (i:Nat) (hi:i<c.length) (rt:Bool) (n:Int) (hn:n=if rt then 1 else 0) (p:List Int) (t v:Tm) (hv:(c[i].side rt).mr p=some v) (hp:p.length<=1000000) (hs:(c[i].side rt).size<=1000000) (hc:c.length<1000000) :
  az Tryz.prog 180 [.ps 5 (lits c),.int .i64 i,.int .i64 n,.ps 1 (ints p),t.aH] (.ps 5 (lits (vn c i rt p t))):=by
 refine az.begin (rs:=[.tmp 10]) (m:=69) 1000 Tryz.func180 rfl rfl rfl (by decide) (bI _) ?_;have j_:=Yuu p (c[i].side rt) t v hp hs hv;have hW:vn c i rt p t=c.set i (c[i].rK rt ((c[i].side rt).jy p t)):=by unfold vn;rw[ax hi]
 rw[hW];have g1:=qs hi;have dL:¬(c.length=0):=by omega
 have FJ:=dA c;have oB:List.take c.length (lits c)=lits c:=aO (by omega);have rV:(i:Int)<c.length:=by omega
 have fS:∀l:Li,(lits c).set i l.aH=lits (c.set i l):=λl=>by unfold lits;rw[l9]
 have Hh:c_ ((lits c).getD i .undef)=true:=by rw[g1];rfl
 have gM:c.length<=1000000000:=by omega
 generalize (c[i].side rt).jy p t=z at *
 cases rt with
 | false =>
  simp only[aX,if_false,if_true]at hn;subst hn;simp only[Li.side,aX,if_false,if_true]at j_;simp only[Li.rK,aX,if_false,if_true];generalize c[i]=l at *
  have he:(lits c).set i (jl (c_ l.aH) [.bool l.neg,.int .i64 z.head,.ps 2 (z.args.map Tm.aH),.int .i64 l.r.head,.ps 2 (l.r.args.map Tm.aH)])=lits (c.set i { neg:=l.neg,l:=z,r:=l.r }):=by
   rw[show jl (c_ l.aH) [.bool l.neg,.int .i64 z.head,.ps 2 (z.args.map Tm.aH),.int .i64 l.r.head,.ps 2 (l.r.args.map Tm.aH)]=({ neg:=l.neg,l:=z,r:=l.r }:Li).aH from rfl]
   simp[lits,l9]
  simp only[go_sem,dO,FJ,dL,oB,gM];refine aC.draw [⟨none,[],[2]⟩,⟨none,[],[2]⟩,⟨none,[],[2]⟩,⟨none,[],[2]⟩,⟨none,[],[2]⟩,⟨none,[],[2]⟩,⟨none,[],[2]⟩,⟨none,[],[2]⟩,⟨none,[],[2]⟩,⟨none,[],[2]⟩,⟨none,[],[2]⟩,⟨some 2,[2],[]⟩,⟨none,[2],[]⟩] 2 3 mixed rfl rfl (by decide) ?_;simp only[go_sem,cM,g1,gf,FJ,rV]
  (repeat((with_reducible refine And.intro ?_ ?_);·omega))
  refine jS j_ (by(try simp only[cq]);exact bL _ _ _) ⟨cV _,cY _,cV _,trivial⟩ ?_
  simp only[go_sem,dO];refine aC.g ?_;simp only[go_sem];refine aC.draw [.no,.no,.no,.no,.no,.no,.no,.no,.no,.no,.no,.no,.no,.no,.no,⟨none,[1],[]⟩] 3 3 mixed rfl rfl (by decide) ?_;simp only[go_sem,cM,g1,gf,FJ,rV,dO]
  (repeat((with_reducible refine And.intro ?_ ?_);·omega))
  rw[he];refine aC.g ?_;simp only[go_sem,dA,bg];rw[aO (by rw[dA,bg];exact ae _)];exact bL _ _ _
 | true =>
  simp only[aX,if_false,if_true]at hn;subst hn;simp only[Li.side,aX,if_false,if_true]at j_;simp only[Li.rK,aX,if_false,if_true];generalize c[i]=l at *
  have he:(lits c).set i (jl (c_ l.aH) [.bool l.neg,.int .i64 l.l.head,.ps 2 (l.l.args.map Tm.aH),.int .i64 z.head,.ps 2 (z.args.map Tm.aH)])=lits (c.set i { neg:=l.neg,l:=l.l,r:=z }):=by
   rw[show jl (c_ l.aH) [.bool l.neg,.int .i64 l.l.head,.ps 2 (l.l.args.map Tm.aH),.int .i64 z.head,.ps 2 (z.args.map Tm.aH)]=({ neg:=l.neg,l:=l.l,r:=z }:Li).aH from rfl]
   simp[lits,l9]
  simp only[go_sem,dO,FJ,dL,oB,gM];refine aC.draw [⟨none,[],[2]⟩,⟨none,[],[2]⟩,⟨none,[],[2]⟩,⟨none,[],[2]⟩,⟨none,[],[2]⟩,⟨none,[],[2]⟩,⟨none,[],[2]⟩,⟨none,[],[2]⟩,⟨none,[],[2]⟩,⟨none,[],[2]⟩,⟨none,[],[2]⟩,⟨some 2,[2],[]⟩,⟨none,[2],[]⟩] 2 3 mixed rfl rfl (by decide) ?_;simp only[go_sem,cM,g1,gf,FJ,rV]
  (repeat((with_reducible refine And.intro ?_ ?_);·omega))
  refine jS j_ (by(try simp only[cq]);exact bL _ _ _) ⟨cV _,cY _,cV _,trivial⟩ ?_
  simp only[go_sem,dO];refine aC.g ?_;simp only[go_sem];refine aC.draw [.no,.no,.no,.no,.no,.no,.no,.no,.no,.no,.no,.no,.no,.no,.no,⟨none,[1],[]⟩] 3 3 mixed rfl rfl (by decide) ?_;simp only[go_sem,cM,g1,gf,FJ,rV,dO]
  (repeat((with_reducible refine And.intro ?_ ?_);·omega))
  rw[he];refine aC.g ?_;simp only[go_sem,dA,bg];rw[aO (by rw[dA,bg];exact ae _)];exact bL _ _ _
def Dx (g:List Sy)(e:Li)(u:Tm)(c:List Li):Nat->Option Tm
 |0=>if (iJ g e 0 u c).2=true then some (iJ g e 0 u c).1 else if (iJ g e 1 u c).2=true then some (iJ g e 1 u c).1 else none
 |1=>if (iJ g e 1 u c).2=true then some (iJ g e 1 u c).1 else none
 |_=>none
def gq (g:List Sy) (u:Tm) (c:List Li):List (List Li)->Nat->Option (Nat×Tm)
 |[],_=>none
 |[e] :: es,k=>if e.neg=true then gq g u c es (k+1) else match Dx g e u c 0 with
  |some t=>some (k,t)
  |none=>gq g u c es (k+1)
 |_ :: es,k=>gq g u c es (k+1)
theorem On {g:List Sy} {u:Tm} {c d:List Li} {es:List (List Li)} {k:Nat} (h:u_ d=false):gq g u c (d :: es) k=gq g u c es (k+1):=by
 match d with
 |[]=>rw[gq];rintro e h;cases h
 |[e] =>
  have:e.neg=true:=by simpa[u_] using h
  rw[gq,if_pos this]
 |_ :: _ :: _=>rw[gq];rintro e h;cases h
theorem N2 {g:List Sy} {u:Tm} {c:List Li} {e:Li} {es:List (List Li)} {k:Nat} (h:u_ [e]=true):gq g u c ([e] :: es) k=match Dx g e u c 0 with
  |some t=>some (k,t)
  |none=>gq g u c es (k+1):=by
 have:¬e.neg=true:=by simpa[u_] using h
 rw[gq,if_neg this]
def IH (g:List Sy)(es:List (List Li))(c:List Li)(i:Nat)(rt:Bool)(p:List Int)(u:Tm):List Li×Int:=match gq g u c es 0 with
 |some x=>(vn c i rt p x.2,(x.1:Int))
 |none=>(c, -1)
set_option maxHeartbeats 1000000 in
theorem Yud (g:List Sy) (es:List (List Li)) (c:List Li) (i:Nat) (hi:i<c.length) (rt:Bool) (n:Int) (hn:n=if rt then 1 else 0) (p:List Int) (u:Tm)
  (hv:(c[i].side rt).mr p=some u) (hp:p.length<=1000000) (hc:∀x∈c,sZ g x) (gM:c.length<400000) (kp:∀d∈es,∀e∈d,sZ g e) (jD:es.length<400000) (Ra:∀d∈es,d.length<1000000) :
  az Tryz.prog 150 [.ps 4 (syms g),.ps 1 (c9 es),.ps 5 (lits c),.int .i64 i,.int .i64 n,.ps 1 (ints p)] (.dw [.ps 5 (lits (IH g es c i rt p u).1),.int .i64 (IH g es c i rt p u).2]):=by
 refine az.begin (rs:=[.tmp 12,.tmp 13]) (m:=71) 1000 Tryz.func150 rfl rfl rfl (by decide) ⟨bI _,trivial,trivial⟩ ?_;have xF:=hc _ (ay hi);have xm:iP g (c[i].side rt):=by unfold Li.side;split;exact xF.2;exact xF.1
 have eM:=(my xm).2;have hu:iP g u:=G8 G2 _ _ _ xm hv;have uH:(ek c[i] n).1=c[i].side rt:=by
  rw[hn];unfold ek Li.side;cases rt<;>simp
 have tO:=PC c[i] n;rw[uH]at tO;have kU:=M6 p (c[i].side rt) hp (by omega);rw[hv]at kU;simp only[bd,oI]at kU;have Dh:=λt=>Yku c i hi rt n hn p t u hv hp (by omega) (by omega);have g1:=qs hi;have rV:(i:Int)<c.length:=by omega
 generalize c[i].side rt=sd at *
 generalize c[i]=li at *
 obtain⟨Z,hZ⟩:∃Z,IH g es c i rt p u=Z:=⟨_,rfl⟩;rw[hZ];obtain⟨F,hF⟩:∃F,gq g u c es 0=F:=⟨_,rfl⟩;unfold IH at hZ;rw[hF]at hZ;generalize (ek li n).2=so at *
 simp only[go_sem,g1,gf,rV,dA]
 (repeat((with_reducible refine And.intro ?_ ?_);·omega))
 refine ak.bm [] tO (bL _ _ _) ⟨jU _,trivial,trivial⟩ ?_;rw[eW];simp only[ite_self];refine aC.g ?_;simp only[go_sem,dO];refine ak.bm [] kU (by(try simp only[cq]);exact bL _ _ _) ⟨cV _,cY _,trivial⟩ ?_
 rw[eW];simp only[ite_self];refine aC.g ?_;simp only[go_sem,dO];refine aC.cA (ι:={k:Nat // k<=es.length/\gq g u c (es.drop k) k=F}) 1000 (λq=>dV 77 [(0,.ps 4 (syms g)),(1,.ps 1 (c9 es)),(2,.ps 5 (lits c)),(3,.int .i64 i),(4,.int .i64 n),(5,.ps 1 (ints p)),(12,.a8),(13,.int .i64 0),(16,.ptr 2 0),(18,.int .i64 q.1)])
  (λ_=>[none,none,some (.var [.int .i64 u.head,.ps 2 (u.args.map Tm.aH)])]) (λq=>es.length-q.1) ⟨0,aj _,hF⟩ ?_ (λ_=>by simp) ?_
 ·simp only[go_sem,bC,cS,eh,bI,cY]
 ·rintro ⟨k,hk,aD⟩;by_cases bx:(k:Int)<es.length
  ·have aL:k<es.length:=by omega
   have hw:=W1' k (by omega)
   have g2:=yn aL;have MK:=Yof es[k] (Ra _ (ay aL));have Hu:=kp _ (ay aL);rw[ai aL]at aD;generalize es[k]=d at *
   simp only[go_sem,bx,lP];cases hd:u_ d with
   | false =>
    rw[On hd]at aD;rw[hd]at MK;refine aC.cA (ι:=Unit) 1000 (λq=>dV 77 [(0,.ps 4 (syms g)),(1,.ps 1 (c9 es)),(2,.ps 5 (lits c)),(3,.int .i64 i),(4,.int .i64 n),(5,.ps 1 (ints p)),(12,.a8),(13,.int .i64 0),(16,.ptr 2 0),(18,.int .i64 k),(19,.int .i64 0)])
     (λ_=>[none,none,some (.var [.int .i64 u.head,.ps 2 (u.args.map Tm.aH)])]) (λq=>0) () ?_ (λ_=>by simp) ?_
    ·simp only[go_sem,bC,cS,eh,bI,cY]
    ·rintro⟨⟩;simp only[go_sem,g2,lP,bx]
     (repeat((with_reducible refine And.intro ?_ ?_);·omega))
     refine ak.bm [] (MK) (bL _ _ _) (by simp[go_sem,bI]) ?_;simp only[bj,bA,bz,if_true];refine aC.g ?_;simp only[go_sem];refine aC.g ?_;simp only[go_sem,hw];refine⟨⟨k+1,by omega,aD⟩,?_,by simp only;omega⟩;simp only[go_sem,bC,cS,eh,bI,cY]
   | true =>
    obtain⟨e,rfl⟩:∃e,d=[e]:=by
     unfold u_ at hd;split at hd
     ·exact⟨_,rfl⟩
     ·cases hd
    rw[N2 hd]at aD;rw[hd]at MK;have Dd:=Hu e (by simp);have JW:=λm=>Yl8 g e m u c (by unfold ek;split;exact Dd.1;exact Dd.2) (by unfold ek;split;exact Dd.2;exact Dd.1) hu hc gM;obtain⟨W,hW⟩:∃W,Dx g e u c 0=W:=⟨_,rfl⟩;rw[hW]at aD;refine aC.cA (ι:={m:Nat // m<=2/\Dx g e u c m=W}) 1000 (λq=>dV 77 [(0,.ps 4 (syms g)),(1,.ps 1 (c9 es)),(2,.ps 5 (lits c)),(3,.int .i64 i),(4,.int .i64 n),(5,.ps 1 (ints p)),(12,.a8),(13,.int .i64 0),(16,.ptr 2 0),(18,.int .i64 k),(19,.int .i64 q.1)])
     (λ_=>[none,none,some (.var [.int .i64 u.head,.ps 2 (u.args.map Tm.aH)])]) (λq=>2-q.1) ⟨0,by omega,hW⟩ ?_ (λ_=>by simp) ?_
    ·simp only[go_sem,bC,cS,eh,bI,cY]
    ·rintro ⟨m,hm,A0⟩;by_cases Mx:(m:Int)<2
     ·have Be:=W1' m (by omega)
      have ht:=JW m;have fN:if (iJ g e m u c).2=true then W=some (iJ g e m u c).1 else Dx g e u c (m+1)=W:=by
       rcases(by omega:m=0\/m=1) with rfl|rfl
       ·rw[Dx]at A0;rw[show((0:Nat):Int)=0 from rfl]
        split at A0
        ·rename_i h;rw[if_pos h];exact A0.symm
        ·rename_i h;rw[if_neg h];exact A0
       ·rw[Dx]at A0;rw[show((1:Nat):Int)=1 from rfl]
        split at A0
        ·rename_i h;rw[if_pos h];exact A0.symm
        ·rename_i h;rw[if_neg h];exact A0
      generalize iJ g e m u c=y at *
      have uW:lits [e]=[.agg [.bool e.neg,.int .i64 e.l.head,.ps 2 (e.l.args.map Tm.aH),.int .i64 e.r.head,.ps 2 (e.r.args.map Tm.aH)]]:=rfl;simp only[go_sem,Mx,g2,lP,bx]
      (repeat((with_reducible refine And.intro ?_ ?_);·omega))
      refine ak.bm [] (MK) (bL _ _ _) (by simp[go_sem,bI]) ?_;simp only[bj,bA,bz,if_true];refine aC.g ?_;simp only[go_sem];refine aC.draw [⟨none,[],[3]⟩,⟨none,[],[3]⟩,⟨none,[],[3]⟩,⟨none,[],[3]⟩,⟨none,[],[3]⟩,⟨none,[],[3]⟩,⟨none,[],[3]⟩,⟨none,[],[3]⟩,⟨none,[],[3]⟩,⟨none,[],[3]⟩,⟨none,[],[3]⟩,⟨none,[],[3]⟩,⟨none,[],[3]⟩,⟨none,[],[3]⟩,⟨some 3,[3],[]⟩,⟨none,[3],[]⟩] 3 4 mixed rfl rfl (by decide) ?_;simp only[go_sem,cM,g2,lP,bx,uW,gf]
      (repeat((with_reducible refine And.intro ?_ ?_);·omega))
      refine jS ht (by(try simp only[cq]);exact bL _ _ _) ⟨cS _,jU _,trivial,cV _,bI _,trivial⟩ ?_
      simp only[go_sem,dO];refine aC.g ?_;cases hy:y.2 with
      |true =>
       rw[hy,if_pos rfl]at fN;subst fN;simp only at aD;subst aD;simp only at hZ;subst hZ;simp only[go_sem,dO];refine ak.bm [] (Dh y.1) (by(try simp only[cq]);exact bL _ _ _) ⟨bI _,trivial,trivial,cY _,cV _,trivial⟩ ?_
       rw[eW];simp only[ite_self];refine aC.g ?_;simp only[go_sem];refine aC.g ?_;simp only[go_sem];refine aC.g ?_;simp only[go_sem]
      |false =>
       rw[hy,if_neg (by simp)]at fN;simp only[go_sem,Be];refine⟨⟨m+1,by omega,fN⟩,?_,by simp only;omega⟩;simp only[go_sem,bC,cS,eh,bI,cY]
     ·have hm3:m=2:=by omega
      subst hm3;have A0:none=W:=A0;subst A0;simp only[go_sem,Mx];refine aC.g ?_;simp only[go_sem,hw];refine⟨⟨k+1,by omega,aD⟩,?_,by simp only;omega⟩;simp only[go_sem,bC,cS,eh,bI,cY]
  ·have eZ:k=es.length:=by omega
   subst eZ;rw[aJ,gq]at aD;subst aD;subst hZ;simp only[go_sem,bx,lP];refine aC.g ?_;simp only[go_sem]
def iK (g:List Sy) (es:List (List Li)) (c:List Li):List mG->Option (List Li×Int)
 |[]=>none
 |s :: ss=>match gq g s.t c es 0 with
  |some x=>some (vn c s.i.toNat s.rt s.p x.2,(x.1:Int))
  |none=>iK g es c ss
def mo (g:List Sy)(es:List (List Li))(c:List Li):List Li×Int:=(iK g es c (cL c 0)).getD (c, -1)
def w6 (i:Nat)(l:Li)(R:List mG):Nat->List mG
 |0=>cU i false l.l++(cU i true l.r++R)
 |1=>cU i true l.r++R
 |_=>R
theorem Zxx (l:Li)(c:List Li)(i:Nat):cL (l :: c) i=w6 i l (cL c (i+1)) 0:=by
 rw[cL,lj,cg];rfl
set_option maxHeartbeats 1000000 in
theorem Yev (g:List Sy) (es:List (List Li)) (c:List Li) (hc:∀x∈c,sZ g x) (gM:c.length<400000) (kp:∀d∈es,∀e∈d,sZ g e) (jD:es.length<400000) (Ra:∀d∈es,d.length<1000000) :
  az Tryz.prog 121 [.ps 4 (syms g),.ps 1 (c9 es),.ps 5 (lits c)] (.dw [.ps 5 (lits (mo g es c).1),.int .i64 (mo g es c).2]):=by
 refine az.begin (rs:=[.tmp 6,.tmp 7]) (m:=58) 1000 Tryz.func121 rfl rfl rfl (by decide) ⟨bI _,trivial,trivial⟩ ?_;obtain⟨F,hF⟩:∃F,iK g es c (cL c 0)=F:=⟨_,rfl⟩;have hSt:mo g es c=F.getD (c, -1):=by unfold mo;rw[hF]
 rw[hSt];simp only[go_sem];refine aC.cA (ι:={i:Nat // i<=c.length/\iK g es c (cL (c.drop i) i)=F}) 1000 (λq=>dV 61 [(0,.ps 4 (syms g)),(1,.ps 1 (c9 es)),(2,.ps 5 (lits c)),(6,.a8),(7,.int .i64 0),(8,.int .i64 q.1)])
  (λ_=>[]) (λq=>c.length-q.1) ⟨0,aj _,hF⟩ ?_ (λ_=>aj _) ?_
 ·simp only[go_sem,cS,eh,bI]
 ·rintro ⟨i,hi,aD⟩;by_cases bx:(i:Int)<c.length
  ·have aL:i<c.length:=by omega
   have hw:=W1' i (by omega)
   have g1:=qs aL;have Jb:=hc _ (ay aL);have kU:=λrt n hn p u hv hp=>Yud g es c i aL rt n hn p u hv hp hc gM kp jD Ra;rw[ai aL,Zxx]at aD;generalize c[i]=l at *
   obtain⟨R,hR⟩:∃R,cL (c.drop (i+1)) (i+1)=R:=⟨_,rfl⟩;rw[hR]at aD;simp only[go_sem,bx,dA];refine aC.cA (ι:={n:Nat // n<=2/\iK g es c (w6 i l R n)=F}) 1000 (λq=>dV 61 [(0,.ps 4 (syms g)),(1,.ps 1 (c9 es)),(2,.ps 5 (lits c)),(6,.a8),(7,.int .i64 0),(8,.int .i64 i),(9,.int .i64 q.1)])
    (λ_=>[]) (λq=>2-q.1) ⟨0,by omega,aD⟩ ?_ (λ_=>aj _) ?_
   ·simp only[go_sem,cS,eh,bI]
   ·rintro ⟨n,hn,FR⟩;by_cases rW:(n:Int)<2
    ·have lE:=W1' n (by omega)
     have tO:=PC l n;obtain⟨rt,vL⟩:∃rt:Bool,rt=decide (n=1):=⟨_,rfl⟩;have hnr:(n:Int)=if rt then 1 else 0:=by
      rw[vL];rcases(by omega:n=0\/n=1) with rfl|rfl<;>simp
     have uH:(ek l n).1=l.side rt:=by
      rw[vL];unfold ek Li.side;rcases(by omega:n=0\/n=1) with rfl|rfl<;>simp
     have xm:w6 i l R n=cU i rt (l.side rt)++w6 i l R (n+1):=by
      rw[vL];rcases(by omega:n=0\/n=1) with rfl|rfl<;>rfl
     rw[uH]at tO;have kU:=kU rt n hnr;have JQ:iP g (l.side rt):=by unfold Li.side;split;exact Jb.2;exact Jb.1
     have eM:=(my JQ).2;rw[xm]at FR;generalize l.side rt=sd at *
     generalize (ek l n).2=so at *
     have fj:=Yva sd (by omega);have hps:∀p∈sd.zw,∃u,sd.mr p=some u/\p.length<=1000:=λp hp=>by
      rw[<-Km]at hp;obtain⟨p',JM,h1,v,h2,_⟩:=G3 sd [] p hp;rw[aY]at JM;subst JM;exact⟨v,h2,by omega⟩
     have MI:cU i rt sd=sd.zw.map λp=>⟨(i:Int),rt,p,(sd.mr p).getD gQ⟩:=by unfold cU;rw[Km]
     have B_:=TX sd;rw[MI]at FR;generalize sd.zw=P at *
     simp only[go_sem,rW,g1,gf,bx,dA]
     (repeat((with_reducible refine And.intro ?_ ?_);·omega))
     refine ak.bm [] tO (bL _ _ _) ⟨jU _,trivial,trivial⟩ ?_;rw[eW];simp only[ite_self];refine aC.g ?_;simp only[go_sem,dO];refine ak.bm [] (fj) (by(try simp only[cq]);exact bL _ _ _) (by simp[go_sem,cV,bC]) ?_;rw[eW];simp only[ite_self];refine aC.g ?_
     simp only[go_sem];refine aC.cA (ι:={j:Nat // j<=P.length/\iK g es c (((P.drop j).map λp=>(⟨(i:Int),rt,p,(sd.mr p).getD gQ⟩:mG))++w6 i l R (n+1))=F}) 1000 (λq=>dV 61 [(0,.ps 4 (syms g)),(1,.ps 1 (c9 es)),(2,.ps 5 (lits c)),(6,.a8),(7,.int .i64 0),(8,.int .i64 i),(9,.int .i64 n),(12,.ps 1 (mL P)),(13,.int .i64 q.1)])
      (λ_=>[none,none]) (λq=>P.length-q.1) ⟨0,aj _,FR⟩ ?_ (λ_=>aj _) ?_
     ·simp only[go_sem,cS,eh,bI]
     ·rintro ⟨j,hj,sH⟩;by_cases sC:(j:Int)<P.length
      ·have nO:j<P.length:=by omega
       have Be:=W1' j (by omega)
       have g3:(mL P).getD j .undef=.ps 1 (ints P[j]):=by simp[mL,List.getD,nO]
       obtain⟨u,R6,xP⟩:=hps _ (ay nO);have iz:=kU P[j] u R6 (by omega);rw[ai nO,aI,bq,iK]at sH;rw[R6]at sH;simp only[bd,bh]at sH;generalize P[j]=p at *
       unfold IH at iz;generalize gq g u c es 0=Y at *
       simp only[go_sem,sC,y0,g3]
       (repeat((with_reducible refine And.intro ?_ ?_);·omega))
       refine ak.bm [] iz (bL _ _ _) ⟨cS _,eh _,bI _,trivial,trivial,cY _,trivial⟩ ?_;rw[eW];simp only[ite_self];refine aC.g ?_;cases Y with
       |some y =>
        simp only at sH;subst sH;have hy:(0:Int)<=y.1:=by omega
        simp only[go_sem,hy];refine aC.g ?_;simp only[go_sem,bd];refine aC.g ?_;simp only[go_sem,bd];refine aC.g ?_;simp only[go_sem,bd]
       |none =>
        simp only at sH;have hy:¬(0:Int)<=-1:=by omega
        simp only[go_sem,hy,Be];refine⟨⟨j+1,by omega,sH⟩,?_,by simp only;omega⟩;simp only[go_sem,cS,eh,bI]
      ·have qh:j=P.length:=by omega
       subst qh;rw[aJ,aR,aY]at sH;simp only[go_sem,sC,y0];refine aC.g ?_;simp only[go_sem,lE];refine⟨⟨n+1,by omega,sH⟩,?_,by simp only;omega⟩;simp only[go_sem,cS,eh,bI]
    ·have hn3:n=2:=by omega
     subst hn3;have FR:iK g es c R=F:=FR;rw[<-hR]at FR;simp only[go_sem,rW];refine aC.g ?_;simp only[go_sem,hw];refine⟨⟨i+1,by omega,FR⟩,?_,by simp only;omega⟩;simp only[go_sem,cS,eh,bI]
  ·have dm:i=c.length:=by omega
   subst dm;rw[aJ,cL,iK]at aD;subst aD;simp only[go_sem,bx,dA];refine aC.g ?_;simp only[go_sem,dD]
def gY (g:List Sy)(es:List (List Li))(c:List Li):List Li×Int×Bool×Int :=
 if cm g (c :: es)≠0 then ([],0,false,cm g (c :: es)) else if (mo g es c).2<0 then (c, -1,false,0) else
 if aW g (mo g es c).1≠0 then ([],0,false,aW g (mo g es c).1) else ((mo g es c).1,(mo g es c).2,true,0)
theorem Wd (c:List Li)(s:mG)(t:Tm):vn c s.i.toNat s.rt s.p t=ll c s t:=rfl
theorem Y3 {g:List Sy}{e:Li}{n:Int}{u:Tm}{c:List Li}(hr:iP g (ek e n).2)(hu:iP g u):(iJ g e n u c).1.fit/\(iJ g e n u c).1.size<=160000:=by
 have su:=my hu;have sr:=my hr;have xP:u.fit/\u.size<=160000:=⟨su.1,by have:=su.2;omega⟩;unfold iJ;split
 ·exact xP
 split
 ·exact xP
 split
 ·exact xP
 split
 ·exact xP
 ·obtain⟨mb,_⟩:=UC (l:=(ek e n).1) su;obtain⟨y1,y2⟩:=Ks (λb hb=>(mb b hb).1) (ek e n).2 (qZ (n_ hr.1).1).2.2 sr.1;exact⟨y1,by have:=aZ 400 sr.2;simp only;omega⟩
theorem Ym {g:List Sy} {u:Tm} {c:List Li} (hu:iP g u):∀(es:List (List Li)) (k:Nat),(∀d∈es,∀e∈d,sZ g e)->∀x,gq g u c es k=some x->(x.2.fit/\x.2.size<=160000)/\k<=x.1
 |[],k,_,x,h=>by rw[gq]at h;cases h
 | d :: es,k,kp,x,h=>by
  have ih:=λh=>Ym (c:=c) hu es (k+1) (λd hd=>kp d (by simp[hd])) x h;cases hd:u_ d with
  |false=>rw[On hd]at h;have:=ih h;exact⟨this.1,by omega⟩
  | true =>
   obtain⟨e,rfl⟩:∃e,d=[e]:=by
    unfold u_ at hd;split at hd
    ·exact⟨_,rfl⟩
    ·cases hd
   rw[N2 hd]at h;have Dd:=kp [e] (by simp) e (by simp);split at h
   ·rename_i t ht;cases h;refine⟨?_,ae _⟩;rw[Dx]at ht;split at ht
    ·cases ht;exact Y3 (by unfold ek;split;exact Dd.2;exact Dd.1) hu
    ·split at ht
     ·cases ht;exact Y3 (by unfold ek;split;exact Dd.2;exact Dd.1) hu
     ·cases ht
   ·have:=ih h;exact⟨this.1,by omega⟩
theorem PA {g:List Sy}{c:List Li}(hc:iC g c):∀s∈cL c 0,iP g s.t:=λs hs=>by
 obtain⟨j,hj,h1,h2,h3⟩:=Gv c 0 s hs;exact G8 G2 _ _ _ (H5 hc (ay hj) s.rt) h2
theorem N0 {g:List Sy} {es:List (List Li)} {c:List Li} (hc:iC g c) (kp:∀d∈es,∀e∈d,sZ g e):∀(ss:List mG),(∀s∈ss,s∈cL c 0)->∀x,iK g es c ss=some x->p5 x.1/\(∀l∈x.1,l.l.size<=200000/\l.r.size<=200000)/\0<=x.2
 |[],_,x,h=>by rw[iK]at h;cases h
 |s :: ss,hs,x,h=>by
  rw[iK]at h;split at h
  ·rename_i y hy;cases h;have xl:=hs s (by simp);obtain⟨⟨f1,f2⟩,_⟩:=Ym (PA hc s xl) es 0 kp y hy;obtain⟨p1,p2⟩:=Pc hc xl f1;rw[Wd];exact⟨p1,λl hl=>by have:=p2 l hl;omega,by simp only;omega⟩
  ·exact N0 hc kp ss (λs h=>hs s (by simp[h])) x h
theorem Qe {g:List Sy}{es:List (List Li)}{c:List Li}(h:qk es c)(hw:cm g (c :: es)=0):iC g c/\(∀x∈c,sZ g x)/\(∀d∈es,∀e∈d,sZ g e)/\c.length<=32/\∀d∈es,d.length<=32:=by
 have hwz:=DH hw;have hc:iC g c:=⟨hwz c (by simp),(h.2 c (by simp)).2⟩;have hd:∀d∈es,iC g d:=λd hd=>⟨hwz d (by simp[hd]),(h.2 d (by simp[hd])).2⟩;exact⟨hc,λx hx=>sQ hc hx,λd Q6 e he=>sQ (hd d Q6) he,(uy hc.1).2.1,λd Q6=>(uy (hd d Q6).1).2.1⟩
theorem YI {g:List Sy} {es:List (List Li)} {c:List Li} (h:qk es c) (hw:cm g (c :: es)=0) (hk : 0<=(mo g es c).2):p5 (mo g es c).1/\∀l∈(mo g es c).1,l.l.size<=200000/\l.r.size<=200000:=by
 obtain⟨h1,_,h3,_⟩:=Qe h hw;unfold mo at hk ⊢;cases hf:iK g es c (cL c 0) with
 |none=>rw[hf]at hk;simp at hk
 |some x =>
  have:=N0 h1 h3 _ (λs hs=>hs) x hf;exact⟨this.1,this.2.1⟩
theorem Yho (g:List Sy) (es:List (List Li)) (c:List Li) (h:qk es c) :
  az Tryz.prog 80 [.ps 4 (syms g),.ps 1 (c9 es),.ps 5 (lits c)] (.dw [.ps 5 (lits (gY g es c).1),.int .i64 (gY g es c).2.1,.bool (gY g es c).2.2.1,.int .i64 (gY g es c).2.2.2]):=by
 refine az.begin (rs:=[.tmp 6,.tmp 7,.tmp 8,.tmp 9]) (m:=36) 1000 Tryz.func80 rfl rfl rfl (by decide) ⟨bI _,trivial,trivial,trivial,trivial⟩ ?_;have hW:=Yj8 g es c (λx hx=>(h.2 x hx).1) (by have:=h.1;omega);have e0:lits []=[]:=rfl;unfold gY;simp only[go_sem];refine ak.bm [] (hW) (bL _ _ _) (by simp[go_sem,cS,eh,bI]) ?_;simp only[bj,bA,bz,if_true];refine aC.g ?_;by_cases h0:cm g (c :: es)=0
 ·rw [if_neg (λe=>e h0)];obtain⟨r1,r2,r3,r4,r5⟩:=Qe h h0;have hS:=Yev g es c r2 (by omega) r3 h.1 (λd hd=>by have:=r5 d hd;omega);have sV:=YI h h0;generalize mo g es c=z at *
  simp only[go_sem,h0];refine ak.bm [] hS (bL _ _ _) ⟨cS _,eh _,bI _,trivial⟩ ?_;rw[eW];simp only[ite_self];refine aC.g ?_;by_cases h1:z.2<0
  ·rw[if_pos h1];simp only[go_sem,h1]
  ·rw[if_neg h1];have p7:=HM g z.1 (λi hi=>by have:=(sV (by omega)).2 _ (ay hi);omega);simp only[go_sem,h1];refine ak.bm [] (p7) (bL _ _ _) (by simp[go_sem,cS,bI]) ?_;simp only[bj,bA,bz,if_true];refine aC.g ?_;by_cases h2:aW g z.1=0
   ·rw[if_neg (λe=>e h2)];simp only[go_sem,h2]
   ·rw[if_pos h2];simp only[go_sem,h2,e0]
 ·rw[if_pos h0];simp only[go_sem,h0,e0]
theorem Xc {g:List Sy} {es:List (List Li)} {c:List Li} (h:qk es c) (h0:(gY g es c).2.2.2=0):qk es (gY g es c).1:=by
 unfold gY at h0 ⊢;split
 ·rename_i h1;rw[if_pos h1]at h0;exact absurd h0 h1
 ·rename_i h1;rw[if_neg h1]at h0;split
  ·exact h
  ·rename_i h2;rw[if_neg h2]at h0;split
   ·rename_i h3;rw[if_pos h3]at h0;exact absurd h0 h3
   ·obtain⟨s1,s2⟩:=YI h (by simpa using h1) (by omega);refine⟨h.1,λx hx=>?_⟩;rcases aU.1 hx with rfl|hx
    ·exact⟨λi hi=>by have:=s2 _ (ay hi);omega,s1⟩
    ·exact h.2 x (by simp[hx])
theorem Yjb (g:List Sy) (es:List (List Li)) (c:List Li) (h:qk es c) :
  az Tryz.prog 38 [.ps 4 (syms g),.ps 1 (c9 es),.ps 5 (lits c)] (.dw [.ps 5 (lits (eJ (gY g es) 201 c []).1),.ps 1 (ints (eJ (gY g es) 201 c []).2.1),.int .i64 (eJ (gY g es) 201 c []).2.2]):=by
 refine az.iq (rs:=[.tmp 6,.tmp 7,.tmp 8]) (m:=35) Tryz.func38 rfl rfl rfl (by decide) ⟨bI _,cY _,trivial,trivial⟩ ?_;refine aC.pad 1 (ae _) (by simp[go_sem,cS,eh,bI]) trivial ?_;obtain⟨Z,hZ⟩:∃Z,eJ (gY g es) 201 c []=Z:=⟨_,rfl⟩;rw[hZ];have e0:lits []=[]:=rfl;refine aC.g ?_;simp only[go_sem];refine aC.ep (ι:={q:List Li×List Int // qk es q.1/\q.2.length<=200/\eJ (gY g es) (201-q.2.length) q.1 q.2=Z}) 1000
  (λq=>dV 38 [(0,.ps 4 (syms g)),(1,.ps 1 (c9 es)),(2,.ps 5 (lits q.1.1)),(6,.a8),(7,.a8),(8,.int .i64 0),(9,eR 0 1 (ints q.1.2))])
  (λq=>[cX (ints q.1.2)]) (λq=>201-q.1.2.length) ⟨(c,[]),h,by simp,hZ⟩ [] ?_ (λ_=>by simp) ?_
 ·refine eL rfl ?_;simp only[go_sem,wy,pU,pC,cS,bI,eh,bT (cS _),bT (bI _),bT (eh _)]
 ·rintro ⟨⟨d,u⟩,rC,hu,hn⟩;simp only at rC hu hn;rw[show 201-u.length=(200-u.length)+1 by omega,eJ]at hn;have hS:=Yho g es d rC;have fA:=Xc (g:=g) rC;generalize hz:gY g es d=z at *
  simp only[go_sem];refine ak.bm [] hS (bL _ _ _) ⟨cS _,eh _,bI _,trivial⟩ ?_;rw[eW];simp only[ite_self];refine aC.g ?_;by_cases h1:z.2.2.2=0
  ·cases h2:z.2.2.1 with
   | true =>
    rw[if_neg (λe=>e h1),h2,if_neg (by simp)]at hn;have lw:bG 0 (ints (u++[z.2.1])):=cY _;rw[yV]at lw;simp only[go_sem,h1,qg,eE,aK,forall_eq,bF,ja];refine⟨by omega,λh3=>?_,λh3=>?_⟩
    ·rw[if_pos (by omega)]at hn;subst hn;refine aC.g ?_;simp only[go_sem,e0,wy]
    ·rw[if_neg (by omega)]at hn;have uI:(u++[z.2.1]).length=u.length+1:=by simp
     refine⟨⟨(z.1,u++[z.2.1]),fA h1,by rw[uI];omega,by rw[uI,show 201-(u.length+1)=200-u.length by omega];exact hn⟩,[(0,2),(2,0)],eL rfl ?_,by simp only[uI];omega⟩;simp only
     rw[yV,qP (by simp),qQ (by simp),ja];simp only[go_sem,cS,bI,eh,bT (cS _),bT (bI _),bT (eh _),bT lw,iD (aj _) lw]
   |false =>
    rw[if_neg (λe=>e h1),h2,if_pos rfl]at hn;subst hn;simp only[go_sem,h1];refine aC.g ?_;simp only[go_sem,nI]
  ·rw[if_pos h1]at hn;subst hn;simp only[go_sem,h1,e0,wy];refine aC.g ?_;simp only[go_sem,e0,wy]
end Go.Proofs
namespace Go.Proofs
open Go Go.dq
theorem Y5 (h k s:Int):∀l:List (Int×Int),gN (mE l k s) h=gN l h+if h=k then s else 0
 |[]=>by
  simp only[mE,gN];by_cases e:h=k
  ·rw[if_pos e.symm,if_pos e];omega
  ·rw[if_neg (gV e),if_neg e];rfl
 | x :: r=>by
  have ih:=Y5 h k s r;simp only[mE];split
  ·rename_i e;simp only[gN];by_cases e2:x.1=h
   ·rw[if_pos e2,if_pos e2,if_pos (by omega)]
   ·rw[if_neg e2,if_neg e2,if_neg (by omega)];omega
  ·rename_i e;simp only[gN];by_cases e2:x.1=h
   ·rw[if_pos e2,if_pos e2,if_neg (by omega)];omega
   ·rw[if_neg e2,if_neg e2,ih]
theorem O2 (k s:Int):∀(l:List (Int×Int)) (h:Int),h∈(mE l k s).map Prod.fst↔h=k\/h∈l.map Prod.fst
 |[],h=>by simp[mE]
 | x :: r,h=>by
  have ih:=O2 k s r h;simp only[mE];split
  ·rename_i e;simp only[aI,aU];rw[<-e];constructor
   ·rintro(h1|h1);exact .inl h1;exact .inr (.inr h1)
   ·rintro(h1|h1|h1);exact .inl h1;exact .inl h1;exact .inr h1
  ·simp only[aI,aU,ih];constructor
   ·rintro(h1|h1|h1);exact .inr (.inl h1);exact .inl h1;exact .inr (.inr h1)
   ·rintro(h1|h1|h1);exact .inr (.inl h1);exact .inl h1;exact .inr (.inr h1)
theorem Xb (k s:Int):∀(l:List (Int×Int)),(l.map Prod.fst).Nodup->((mE l k s).map Prod.fst).Nodup
 |[],_=>by simp[mE]
 | x :: r,h=>by
  simp only[aI,fM]at h;simp only[mE];split
  ·rename_i e;simp only[aI,fM];exact h
  ·rename_i e;simp only[aI,fM];refine⟨λhm=>?_,Xb k s r h.2⟩;rcases(O2 k s r x.1).1 hm with h1|h1
   ·exact e h1
   ·exact h.1 h1
def yf (l:List (Int×Int)):Prop:=(l.map Prod.fst).Nodup/\∀h∈l.map Prod.fst,h<0
theorem SK {l:List (Int×Int)}:∀(_:(l.map Prod.fst).Nodup) (x:Int×Int),x∈l->gN l x.1=x.2:=by
 induction l with
 |nil=>intro _ x h;cases h
 |cons a l ih =>
  intro hn x hx;simp only[aI,fM]at hn;simp only[gN];rcases aU.1 hx with rfl|hx
  ·rw[if_pos rfl]
  ·rw[if_neg (λe:a.1=x.1=>hn.1 (by rw[e];exact n7 hx))];exact ih hn.2 x hx
theorem Yjv {l:List (Int×Int)} {h:Int}:h ∉ l.map Prod.fst->gN l h=0:=by
 induction l with
 |nil=>intro _;rfl
 |cons a l ih =>
  intro hn;simp only[aI,aU,not_or]at hn;simp only[gN];rw[if_neg (gV hn.1)];exact ih hn.2
theorem Zt {l:List (Int×Int)} (hl:yf l) (p:Int->Bool) (hp:p 0=false):(l.map Prod.snd).any p=true↔∃h,h<0/\p (gN l h)=true:=by
 rw[cP];constructor
 ·rintro⟨y,hy,hpy⟩;obtain⟨x,hx,rfl⟩:=cN.1 hy;exact⟨x.1,hl.2 _ (n7 hx),by rw[SK hl.1 x hx];exact hpy⟩
 ·rintro⟨h,_,RO⟩;by_cases hm:h∈l.map Prod.fst
  ·obtain⟨x,hx,rfl⟩:=cN.1 hm;exact⟨x.2,n7 hx,by rw[<-SK hl.1 x hx];exact RO⟩
  ·rw[Yjv hm,hp]at RO;cases RO
mutual
theorem Po (g:List Sy) (s:Int):∀(t:Tm) (x:Int×List (Int×Int)),t.good=true->yf x.2->(uK g s t x).1=x.1+s*t.kX g/\yf (uK g s t x).2/\∀h,h<0->gN (uK g s t x).2 h=gN x.2 h+s*(t.cv (-1-h):Int)
 | .mk k ts,x,hg,hx=>by
  obtain⟨g1,g2,g3,g4⟩:=zE hg;simp only[Tm.head,Tm.args]at g1 g2 g3 g4;rw[uK,Tm.kX];by_cases hn:k<0
  ·rw [if_pos hn,if_pos hn];have uv:=g4 hn;refine⟨by simp only;omega,⟨Xb k s _ hx.1,λh hm=>?_⟩,λh hh=>?_⟩
   ·rcases(O2 k s _ h).1 hm with rfl|hm
    ·exact hn
    ·exact hx.2 h hm
   ·simp only
    rw[Y5,Tm.cv,uv,Tm.vE];by_cases e:h=k
    ·rw[if_pos e,if_pos (by omega)];simp
    ·rw[if_neg e,if_neg (by omega)];simp
  ·rw[if_neg hn,if_neg hn];have oA:Tm.fy ts=true:=by rw[Tm.good,aG]at hg;exact hg.2
   obtain⟨a1,a2,a3⟩:=Xy g s ts (x.1+s*nG g k,x.2) oA hx;refine⟨?_,a2,λh hh=>?_⟩
   ·rw[a1];have:=PE g ts 0 (nG g k);rw[Int.zero_add]at this;rw[this,Int.mul_add];simp only;omega
   ·rw[a3 h hh,Tm.cv,if_neg (by omega),br]
theorem Xy (g:List Sy) (s:Int):∀(ts:List Tm) (x:Int×List (Int×Int)),Tm.fy ts=true->yf x.2->(qc g s ts x).1=x.1+s*Tm.lx g ts 0/\yf (qc g s ts x).2/\∀h,h<0->gN (qc g s ts x).2 h=gN x.2 h+s*(Tm.vE (-1-h) ts:Int)
 |[],x,_,hx=>by
  rw[qc];exact⟨by simp[Tm.lx],hx,λh _=>by simp[Tm.vE]⟩
 | t :: ts,x,hg,hx=>by
  rw[Tm.fy,aG]at hg;rw[qc];obtain⟨a1,a2,a3⟩:=Po g s t x hg.1 hx;obtain⟨b1,b2,b3⟩:=Xy g s ts _ hg.2 a2;refine⟨?_,b2,λh hh=>?_⟩
  ·rw[b1,a1,Tm.lx];have:=PE g ts 0 (t.kX g);rw[this,Int.mul_add];omega
  ·rw[b3 h hh,a3 h hh,Tm.vE]
   push_cast
   rw[Int.mul_add];omega
end
theorem O8 (g:List Sy){t u:Tm}(ht:t.good=true)(hu:u.good=true):(pw g t u).1=t.kX g-u.kX g/\yf (pw g t u).2/\∀h,h<0->gN (pw g t u).2 h=(t.cv (-1-h):Int)-u.cv (-1-h):=by
 have h0:yf ([]:List (Int×Int)):=⟨by simp,λh hh=>by simp at hh⟩;obtain⟨a1,a2,a3⟩:=Po g 1 t (0,[]) ht h0;obtain⟨b1,b2,b3⟩:=Po g (-1) u _ hu a2;unfold pw;refine⟨by rw[b1,a1];simp only;omega,b2,λh hh=>?_⟩;rw[b3 h hh,a3 h hh];simp only[gN];omega
mutual
theorem Uo {v:Int} (hv : 0<=v):∀t:Tm,t.iS (λw=>w≠v)->t.cv v=0
 |.mk h ts,ha=>by
  rw[Tm.cv,YP hv ts ha.2];by_cases e:h = -1-v
  ·exact absurd (by omega) (ha.1 (by omega))
  ·rw[if_neg e]
theorem YP {v:Int}(hv : 0<=v):∀ts:List Tm,Tm.ji (λw=>w≠v) ts->Tm.vE v ts=0
 |[],_=>rfl
 |t :: ts,ha=>by rw[Tm.vE,Uo hv t ha.1,YP hv ts ha.2]
end
theorem Yx5 {v:Int}(hv : 0<=v){t:Tm}(h:v ∉ t.vars):t.cv v=0 :=
 Uo hv t ((EV t).1 λw hw e=>h (e ▸ hw))
theorem OB (a b:Tm):gx a b=true↔∀v,0<=v->b.cv v<=a.cv v:=by
 unfold gx;rw[bu];constructor
 ·intro h v hv;by_cases hm:v∈b.vars
  ·exact of_decide_eq_true (h v hm)
  ·rw[Yx5 hv hm];exact aj _
 ·intro h v hm;exact decide_eq_true (h v (VF b v hm))
theorem Yba {g:List Sy}{t u:Tm}(ht:t.good=true)(hu:u.good=true):(((pw g t u).2.map Prod.snd).any λn=>decide (n<0)) = !gx t u:=by
 obtain⟨_,h2,h3⟩:=O8 g ht hu;have h:=Zt h2 (λn=>decide (n<0)) rfl;rw[eK,h,bX,<-dB,OB];constructor
 ·rintro⟨k,hk,hp⟩ fj;have:=fj (-1-k) (by omega);have hp:=of_decide_eq_true hp;rw[h3 k hk]at hp;omega
 ·intro hn;obtain⟨v,hv⟩:=Classical.not_forall.1 hn;obtain⟨R8,Ep⟩:=Classical.not_imp.1 hv;refine⟨-1-v,by omega,decide_eq_true ?_⟩;rw[h3 _ (by omega),show -1-(-1-v)=v by omega];omega
theorem Yde {g:List Sy}{t u:Tm}(ht:t.good=true)(hu:u.good=true):(((pw g t u).2.map Prod.snd).any λn=>decide (0<n)) = !gx u t:=by
 obtain⟨_,h2,h3⟩:=O8 g ht hu;have h:=Zt h2 (λn=>decide (0<n)) rfl;rw[eK,h,bX,<-dB,OB];constructor
 ·rintro⟨k,hk,hp⟩ fj;have:=fj (-1-k) (by omega);have hp:=of_decide_eq_true hp;rw[h3 k hk]at hp;omega
 ·intro hn;obtain⟨v,hv⟩:=Classical.not_forall.1 hn;obtain⟨R8,Ep⟩:=Classical.not_imp.1 hv;refine⟨-1-v,by omega,decide_eq_true ?_⟩;rw[h3 _ (by omega),show -1-(-1-v)=v by omega];omega
theorem UX {g:List Sy}{t u:Tm}(ht:t.good=true)(hu:u.good=true)(n:Int):wk (pw g t u) n=oo n (!gx u t) (!gx t u):=by
 unfold wk;rw[Yba ht hu,Yde ht hu]
theorem Nf {g:List Sy}{t u:Tm}(ht:t.good=true)(hu:u.good=true){n:Int}:wk (pw g t u) n=1↔0<n/\gx t u=true:=by
 rw[UX ht hu];unfold oo;by_cases h1 : 0<n/\(!gx t u)=false
 ·rw[if_pos h1];simpa using h1
 ·rw[if_neg h1];simp only[ij]at h1;split<;>(constructor<;>intro h<;>first|omega|exact absurd h h1)
theorem Na {g:List Sy} {t u:Tm} (ht:t.good=true) (hu:u.good=true) {n:Int}:wk (pw g t u) n = -1↔n<0/\gx u t=true:=by
 rw[UX ht hu];unfold oo;by_cases h1 : 0<n/\(!gx t u)=false
 ·rw[if_pos h1];constructor
  ·intro h;omega
  ·intro h;omega
 ·rw [if_neg h1];by_cases h2:n<0/\(!gx u t)=false
  ·rw[if_pos h2];simpa using h2
  ·rw[if_neg h2];simp only[ij]at h2;constructor
   ·intro h;omega
   ·intro h;exact absurd h h2
theorem MW (x:Int×List (Int×Int))(n:Int):wk x n≠0:=by
 unfold wk oo;split
 ·omega
 split<;>omega
theorem W_ (g:List Sy) (t u:Tm):eT g t u=if t=u then 0 else if (pw g t u).1≠0 then wk (pw g t u) (pw g t u).1 else
  if t.head<0\/u.head<0 then 2 else if t.head≠u.head then wk (pw g t u) (t.head-u.head) else iL g (pw g t u) t.args u.args:=by
 cases t;rw[eT];rfl
theorem Nh (g:List Sy)(t u:Tm):t.gr g u=if gx t u=false then false else if t.kX g≠u.kX g then decide (u.kX g<t.kX g) else if t.head<0\/u.head<0 then false else if t.head≠u.head then decide (u.head<t.head) else Tm.rU g t.args u.args:=by
 cases t;rw[Tm.gr];rfl
theorem MZ {t u:Tm}(h1:t.head=u.head)(h2:t.args=u.args):t=u:=by
 cases t;cases u;simp only[Tm.head,Tm.args]at h1 h2;rw[h1,h2]
theorem PF (x:Int×List (Int×Int))(n:Int):wk x n=1\/wk x n = -1\/wk x n=2:=by
 unfold wk oo;split
 ·exact .inl rfl
 split
 ·exact .inr (.inl rfl)
 ·exact .inr (.inr rfl)
theorem VY (g:List Sy) (x:Int×List (Int×Int)):∀ts us:List Tm,iL g x ts us=0\/iL g x ts us=1\/iL g x ts us = -1\/iL g x ts us=2
 |[],_=>by rw[iL];simp
 |_ :: _,[]=>by rw[iL];simp
 | t :: ts,u :: us=>by
  rw[iL];split
  ·split
   ·exact .inr (.inr (.inr rfl))
   ·exact .inr (PF _ _)
  ·exact VY g x ts us
theorem Ws (g:List Sy)(t u:Tm):eT g t u=0\/eT g t u=1\/eT g t u = -1\/eT g t u=2:=by
 rw[W_];split
 ·exact .inl rfl
 split
 ·exact .inr (PF _ _)
 split
 ·exact .inr (.inr (.inr rfl))
 split
 ·exact .inr (PF _ _)
 ·exact VY _ _ _ _
def agree (g:List Sy)(t u:Tm):Prop:=(eT g t u=1↔t.gr g u=true)/\(eT g t u = -1↔u.gr g t=true)/\(eT g t u=0↔t=u)
theorem Vx {g:List Sy} {x y:Tm} (hx:x.good=true) (hy:y.good=true):∀(ts us:List Tm),ts.length=us.length->(∀t∈ts,∀u∈us,agree g t u) ->
  (iL g (pw g x y) ts us=1↔Tm.rU g ts us=true/\gx x y=true)/\(iL g (pw g x y) ts us = -1↔Tm.rU g us ts=true/\gx y x=true)/\(iL g (pw g x y) ts us=0↔ts=us)
 |[],[],_,_=>by
  rw[iL,Tm.rU];exact⟨⟨λh=>by omega,λh=>by cases h.1⟩,⟨λh=>by omega,λh=>by cases h.1⟩,by simp⟩
 | t :: ts,u :: us,hl,h=>by
  obtain⟨a1,a2,a3⟩:=h t (by simp) u (by simp);have ih:=Vx hx hy ts us (by simpa using hl) (λa ha b hb=>h a (by simp[ha]) b (by simp[hb]));rw[iL,Tm.rU,Tm.rU];by_cases e:t=u
  ·rw[if_neg (λhn=>hn (a3.2 e)),if_pos e,if_pos e.symm];refine⟨ih.1,ih.2.1,?_⟩;rw[ih.2.2,e];simp
  ·have dL:eT g t u≠0:=λh0=>e (a3.1 h0);rw[if_pos dL,if_neg e,if_neg (gV e)];by_cases h2:eT g t u=2
   ·rw[if_pos h2];refine⟨⟨λh=>by omega,λh=>?_⟩,⟨λh=>by omega,λh=>?_⟩,⟨λh=>by omega,λh=>?_⟩⟩
    ·have:=a1.2 h.1;omega
    ·have:=a2.2 h.1;omega
    ·exact absurd (kZ h).1 e
   ·rw [if_neg h2];refine⟨?_,?_,⟨λh=>absurd h (MW _ _),λh=>absurd (kZ h).1 e⟩⟩
    ·rw[Nf hx hy,<-a1];constructor
     ·rintro⟨h3,h4⟩;refine⟨?_,h4⟩;rcases Ws g t u with h5|h5|h5|h5<;>omega
     ·rintro⟨h3,h4⟩;exact⟨by omega,h4⟩
    ·rw[Na hx hy,<-a2];constructor
     ·rintro⟨h3,h4⟩;refine⟨?_,h4⟩;rcases Ws g t u with h5|h5|h5|h5<;>omega
     ·rintro⟨h3,h4⟩;exact⟨by omega,h4⟩
def zM (g:List Sy)(t u:Tm):Bool:=if t.kX g≠u.kX g then decide (u.kX g<t.kX g) else if t.head<0\/u.head<0 then false else if t.head≠u.head then decide (u.head<t.head) else Tm.rU g t.args u.args
theorem U0 (g:List Sy)(t u:Tm):t.gr g u=(gx t u&&zM g t u):=by
 rw[Nh];unfold zM;cases gx t u<;>simp
theorem O7 (g:List Sy):∀l:List Tm,Tm.rU g l l=false
 |[]=>rfl
 |a :: l=>by rw[Tm.rU,if_pos rfl];exact O7 g l
theorem V_ (g:List Sy):∀(n:Nat) (t u:Tm),t.size<=n->iP g t->iP g u->agree g t u
 |0,t,_,h,_,_=>by have:=BM t;omega
 | n+1,t,u,hn,ht,hu=>by
  have gt:=(qZ (n_ ht.1).1).2.2;have gu:=(qZ (n_ hu.1).1).2.2;have hW:=(O8 g gt gu).1;unfold agree;rw[W_,U0 g t u,U0 g u t];by_cases e:t=u
  ·subst e;rw[if_pos rfl];have key:zM g t t=false:=by
    unfold zM;rw[if_neg (λh=>h rfl),if_neg (λh=>h rfl:¬t.head≠t.head),O7];split<;>rfl
   rw[key,f_];exact⟨⟨λh=>by omega,λh=>by cases h⟩,⟨λh=>by omega,λh=>by cases h⟩,by simp⟩
  ·rw [if_neg e];by_cases c1:t.kX g=u.kX g
   ·rw [if_neg (by omega)];have r1:zM g t u=if t.head<0\/u.head<0 then false else if t.head≠u.head then decide (u.head<t.head) else Tm.rU g t.args u.args:=by unfold zM;rw[if_neg (λh=>h c1)]
    have r2:zM g u t=if u.head<0\/t.head<0 then false else if u.head≠t.head then decide (t.head<u.head) else Tm.rU g u.args t.args:=by unfold zM;rw[if_neg (λh=>h c1.symm)]
    by_cases c2:t.head<0\/u.head<0
    ·rw[if_pos c2]at r1 ⊢;rw[if_pos c2.symm]at r2;rw[r1,r2,f_,f_];exact⟨⟨λh=>by omega,λh=>by cases h⟩,⟨λh=>by omega,λh=>by cases h⟩,⟨λh=>by omega,λh=>absurd h e⟩⟩
    ·rw [if_neg c2]at r1 ⊢;rw[if_neg (λh=>c2 h.symm)]at r2;by_cases c3:t.head=u.head
     ·rw[if_neg (λh=>h c3)]at r1 ⊢;rw[if_neg (λh=>h c3.symm)]at r2;have hl:=UH ht hu (by omega) c3;have hA:=Vx (g:=g) gt gu t.args u.args hl (λa ha b hb=>V_ g n a b (by have:=sO ha;have:=n9 t;omega) (G2 t ht a ha) (G2 u hu b hb));rw[r1,r2,aG,aG];refine⟨?_,?_,?_⟩
      ·rw[hA.1];exact And.comm
      ·rw[hA.2.1];exact And.comm
      ·rw[hA.2.2];exact⟨λh=>MZ c3 h,λh=>absurd h e⟩
     ·rw[if_pos c3]at r1 ⊢;rw[if_pos (gV c3)]at r2;rw[r1,r2,aG,aG,decide_eq_true_eq,decide_eq_true_eq];refine⟨?_,?_,⟨λh=>absurd h (MW _ _),λh=>absurd h e⟩⟩
      ·rw[Nf gt gu];exact⟨λh=>⟨h.2,by omega⟩,λh=>⟨by omega,h.1⟩⟩
      ·rw[Na gt gu];exact⟨λh=>⟨h.2,by omega⟩,λh=>⟨by omega,h.1⟩⟩
   ·rw[if_pos (by omega)];have r1:zM g t u=decide (u.kX g<t.kX g):=by unfold zM;rw[if_pos c1]
    have r2:zM g u t=decide (t.kX g<u.kX g):=by unfold zM;rw[if_pos (gV c1)]
    rw[r1,r2,aG,aG,decide_eq_true_eq,decide_eq_true_eq];refine⟨?_,?_,⟨λh=>absurd h (MW _ _),λh=>absurd h e⟩⟩
    ·rw[Nf gt gu,hW];exact⟨λh=>⟨h.2,by omega⟩,λh=>⟨by omega,h.1⟩⟩
    ·rw[Na gt gu,hW];exact⟨λh=>⟨h.2,by omega⟩,λh=>⟨by omega,h.1⟩⟩
theorem Zf {g:List Sy}{t u:Tm}(ht:iP g t)(hu:iP g u):decide (eT g t u=1)=t.gr g u:=by
 have:=(V_ g _ t u (ae _) ht hu).1;rw[eK,decide_eq_true_eq];exact this
section
variable {α:Type}(same : α->α->Bool)
def yP (x : α):List α->Option (List α)
 |[]=>none
 |y :: b=>if same x y=true then some b else (yP x b).map (y :: ·)
def eg:List α->List α->List α
 |[],_=>[]
 |x :: a,b=>match yP same x b with
  |none=>x :: eg a b
  |some b'=>eg a b'
def mJ:List α->List Bool->List α
 |y :: b,u :: us=>if u=true then mJ b us else y :: mJ b us
 |_,_=>[]
theorem TD (y : α)(b:List α)(us:List Bool):mJ (y :: b) (false :: us)=y :: mJ b us:=by rw[mJ];exact if_neg (by simp)
theorem Yi:∀b:List α,mJ b (List.replicate b.length false)=b
 |[]=>rfl
 |y :: b=>by rw[aq,eS,mJ,if_neg (by simp),Yi b]
def Ff (x : α):List α->List Bool->Nat->Option Nat
 |y :: b,u :: us,k=>if (!u&&same x y)=true then some k else Ff x b us (k+1)
 |_,_,_=>none
theorem UD {b0:List α} {Gn:List Bool} (hl:Gn.length=b0.length) (x : α):∀(n k:Nat),b0.length-k=n->k<=b0.length->fk (HF same b0 Gn x) n k=Ff same x (b0.drop k) (Gn.drop k) k
 |0,k,h,hk=>by
  have:k=b0.length:=by omega
  subst this;rw[fk,aJ];cases Gn.drop b0.length<;>rfl
 |n+1,k,h,hk=>by
  have h1:k<b0.length:=by omega
  have h2:k<Gn.length:=by omega
  have hg:Gn.getD k false=Gn[k]:=by simp[List.getD,h2]
  rw[fk,M5 h1,hg,ai h1,ai h2,Ff,UD hl x n (k+1) (by omega) (by omega)]
theorem U3 (x : α):∀(b:List α) (us:List Bool) (k:Nat),us.length=b.length->(Ff same x b us k=none->yP same x (mJ b us)=none)/\∀j,Ff same x b us k=some j->k<=j/\yP same x (mJ b us)=some (mJ b (us.set (j-k) true))
 |[],us,k,_=>by
  cases us<;>exact⟨λ_=>rfl,λj h=>by cases h⟩
 |y :: b,[],k,h=>by simp at h
 | y :: b,u :: us,k,h=>by
  obtain⟨i1,i2⟩:=U3 x b us (k+1) (by simpa using h);rw[Ff];cases u with
  |true =>
   simp only[Bool.not_true,bU,aX,if_false];rw[mJ,if_pos rfl];refine⟨i1,λj hj=>?_⟩;obtain⟨j1,j2⟩:=i2 j hj;refine⟨by omega,?_⟩;rw[j2,show j-k=(j-(k+1))+1 by omega,cu,mJ,if_pos rfl]
  | false =>
   simp only[l6,bO];rw[TD,yP];cases hs:same x y with
   |true =>
    simp only[if_true];refine⟨λh=>(by cases h),λj hj=>?_⟩;cases hj;refine⟨ae _,?_⟩;rw[dF,cw,mJ,if_pos rfl]
   |false =>
    simp only[aX,if_false];refine⟨λh=>by rw[i1 h];rfl,λj hj=>?_⟩;obtain⟨j1,j2⟩:=i2 j hj;refine⟨by omega,?_⟩;rw[j2,show j-k=(j-(k+1))+1 by omega,cu,TD];rfl
theorem Qj (b0:List α):∀(a:List α) (us:List Bool),us.length=b0.length->pO same b0 a us=eg same a (mJ b0 us)
 |[],_,_=>by rw[pO,eg]
 | x :: a,us,hl=>by
  rw[pO,eg];have e1:=UD same hl x b0.length 0 (by omega) (aj _);rw[dQ,dQ]at e1;obtain⟨h1,h2⟩:=U3 same x b0 us 0 hl;rw[e1];cases hf:Ff same x b0 us 0 with
  |none=>rw[h1 hf];simp only;rw[Qj b0 a us hl]
  |some k =>
   rw[(h2 k hf).2];simp only[gU];rw[Qj b0 a (us.set k true) (by rw[bg];exact hl)]
theorem DT (a b:List α):pO same b a (List.replicate b.length false)=eg same a b:=by
 rw[Qj same b a _ (by simp),Yi]
theorem M4 (x : α):∀(b:List α) (n:Int),0<=n->(eF (λy=>same x y) b n<0->yP same x b=none)/\(¬eF (λy=>same x y) b n<0->n<=eF (λy=>same x y) b n/\yP same x b=some (b.take (eF (λy=>same x y) b n-n).toNat++b.drop ((eF (λy=>same x y) b n-n).toNat+1)))
 |[],n,_=>by rw[eF];exact⟨λ_=>rfl,λh=>by omega⟩
 | y :: b,n,hn=>by
  obtain⟨i1,i2⟩:=M4 x b (n+1) (by omega);rw[eF,yP];cases hs:same x y with
  |true =>
   simp only[if_true];refine⟨λh=>by omega,λ_=>⟨nk _,?_⟩⟩;rw[Int.sub_self];rfl
  |false =>
   simp only[aX,if_false];refine⟨λh=>by rw[i1 h];rfl,λh=>?_⟩;obtain⟨j1,j2⟩:=i2 h;refine⟨by omega,?_⟩;rw[j2,show(eF (λy=>same x y) b (n+1)-n).toNat=(eF (λy=>same x y) b (n+1)-(n+1)).toNat+1 by omega,cW,n5];rfl
end
theorem LD:∀a b:List Li,fC a b=eg dv a b
 |[],_=>by rw[fC,eg]
 |x :: a,b=>by
  rw[fC,eg];obtain⟨h1,h2⟩:=M4 dv x b 0 (nk _);split
  ·rename_i h;rw[h1 h];simp only;rw[LD a b]
  ·rename_i h;rw[(h2 h).2,Int.sub_zero];simp only;rw[LD a];rfl
theorem Lp:∀a b:List Tm,eV a b=eg pa a b
 |[],_=>by rw[eV,eg]
 |x :: a,b=>by
  rw[eV,eg];obtain⟨h1,h2⟩:=M4 pa x b 0 (nk _);have he:(λy=>decide (x=y))=λy=>pa x y:=rfl;rw[he];split
  ·rename_i h;rw[h1 h];simp only;rw[Lp a b]
  ·rename_i h;rw[(h2 h).2,Int.sub_zero];simp only;rw[Lp a];rfl
theorem GK {α:Type} (same : α->α->Bool):∀(a b:List α),∀x∈eg same a b,x∈a
 |[],_,x,h=>by rw[eg]at h;cases h
 | y :: a,b,x,h=>by
  rw[eg]at h;split at h
  ·rcases aU.1 h with rfl|h
   ·simp
   ·exact ct _ (GK same a b x h)
  ·exact ct _ (GK same a _ x h)
theorem XF {α:Type} {f h : α->α->Bool} {a b:List α} (he:∀x∈a,∀y∈b,f x y=h x y):mY f a b=mY h a b:=by
 have:∀(b:List α),(∀x∈a,∀y∈b,f x y=h x y)->(b.all λy=>a.any λx=>f x y)=b.all λy=>a.any λx=>h x y:=by
  intro b
  induction b with
  |nil=>intro _;rfl
  | cons y b ih =>
   intro hb;rw[h_,h_,ih λx hx z hz=>hb x hx z (by simp[hz])];congr 1;have:∀l:List α,(∀x∈l,f x y=h x y)->(l.any λx=>f x y)=l.any λx=>h x y:=by
    intro l
    induction l with
    |nil=>intro _;rfl
    |cons z l Sh=>intro hz;rw[dI,dI,hz z (by simp),Sh λx hx=>hz x (by simp[hx])]
   exact this a λx hx=>hb x hx y (by simp)
 unfold mY;rw[this b he]
theorem V0 {α:Type} (p : α->Bool):∀b:List α,(!b.any λy=>!p y)=b.all p
 |[]=>rfl
 |y :: b=>by
  rw[dI,h_,<-V0 p b];cases p y<;>simp
theorem ZC {g:List Sy} {a b:List Tm} (ha:∀x∈a,iP g x) (hb:∀x∈b,iP g x):oh g a b=mY (Tm.gr g) a b:=by
 have h1:oh g a b=mY (λx y=>decide (eT g x y=1)) a b:=by
  unfold oh mY;rw[V0 (λy=>wE g a y),Bool.and_comm];rfl
 rw[h1];exact XF λx hx y hy=>Zf (ha x hx) (hb y hy)
theorem Yhr {g:List Sy}{a b:List Tm}(ha:∀x∈a,iP g x)(hb:∀x∈b,iP g x):rH g a b=vP pa (Tm.gr g) a b:=by
 unfold rH vP;have m1:∀x∈eg pa a b,iP g x:=λx hx=>ha x (GK pa a b x hx);have m2:∀x∈eg pa b a,iP g x:=λx hx=>hb x (GK pa b a x hx);rw[Lp,Lp,DT,DT,ZC m1 m2,ZC m2 m1]
theorem Yx0 {g:List Sy}{a b:Li}(ha:a.check g=0)(hb:b.check g=0)(ra:sZ g a)(rb:sZ g b):BW g a b=decide (yd g a b=1):=by
 unfold BW sB yd;rw[if_neg (λh=>h ha),if_neg (λh=>h hb),Yhr (LV ra) (LV rb)];simp
theorem Zs (g:List Sy) (a:List Li):∀b:List Li,lL g a b=mY (BW g) a b
 |[]=>by rw[lL];simp[mY]
 |y :: b=>by
  rw[lL,Ph,Zs g a b];cases a.any λx=>BW g x y<;>simp
theorem Tn {g:List Sy}{a b:List Li}(ha:∀x∈a,x.check g=0/\sZ g x)(hb:∀x∈b,x.check g=0/\sZ g x):lL g a b=mY (λx y=>decide (yd g x y=1)) a b:=by
 rw[Zs];exact XF λx hx y hy=>Yx0 (ha x hx).1 (hb y hy).1 (ha x hx).2 (hb y hy).2
theorem Tz {g:List Sy}{c:List Li}(h:iC g c):∀x∈c,x.check g=0/\sZ g x:=λx hx=>⟨(uy h.1).2.2 x hx,sQ h hx⟩
theorem Yty {g:List Sy}{a b:List Li}(ha:iC g a)(hb:iC g b):qv g a b=(ub g a b,0):=by
 unfold qv ub vP;have m1:∀x∈eg dv a b,x.check g=0/\sZ g x:=λx hx=>Tz ha x (GK dv a b x hx);have m2:∀x∈eg dv b a,x.check g=0/\sZ g x:=λx hx=>Tz hb x (GK dv b a x hx);rw[if_neg (λh=>h ha.1),if_neg (λh=>h hb.1),LD,LD,DT,DT,Tn m1 m2,Tn m2 m1];split
 ·rfl
 split
 ·rfl
 split
 ·rfl
 ·rfl
section
variable {α:Type}
def eO (same : α->α->Bool)(x : α):List α->Nat
 |[]=>0
 |y :: l=>(if same x y=true then 1 else 0)+eO same x l
structure qm (same : α->α->Bool):Prop where
 refl:∀x,same x x=true
 symm:∀x y,same x y=true->same y x=true
 trans:∀x y z,same x y=true->same y z=true->same x z=true
variable {same : α->α->Bool}
theorem qm.congr (h:qm same){x y : α}(hs:same x y=true)(z : α):same z x=same z y:=by
 rw[eK];exact⟨λh1=>h.trans _ _ _ h1 hs,λh1=>h.trans _ _ _ h1 (h.symm _ _ hs)⟩
theorem qm.Fb (h:qm same){x y : α}(hs:same x y=true)(z : α):same x z=same y z:=by
 rw[eK];exact⟨λh1=>h.trans _ _ _ (h.symm _ _ hs) h1,λh1=>h.trans _ _ _ hs h1⟩
theorem WC (h:qm same){x y : α}(hs:same x y=true):∀l,eO same x l=eO same y l
 |[]=>rfl
 |z :: l=>by rw[eO,eO,WC h hs l,h.Fb hs]
theorem Ih (h:qm same) {x : α}:∀ {l:List α},x∈l->0<eO same x l
 |y :: l,hm=>by
  rw[eO];rcases aU.1 hm with rfl|hm
  ·rw[if_pos (h.refl _)];omega
  ·have:=Ih h hm;omega
theorem Ls {x : α}:∀ {l:List α},0<eO same x l->∃y∈l,same x y=true
 |y :: l,hp=>by
  rw[eO]at hp;by_cases hs:same x y=true
  ·exact⟨y,by simp,hs⟩
  ·rw[if_neg hs]at hp;obtain⟨z,h1,h2⟩:=Ls (x:=x) (l:=l) (by omega);exact⟨z,by simp[h1],h2⟩
theorem Ut (h:qm same) (x : α):∀b:List α,(yP same x b=none->eO same x b=0)/\∀b',yP same x b=some b'->∀z,eO same z b=eO same z b'+if same z x=true then 1 else 0
 |[]=>⟨λ_=>rfl,λb' h=>by rw[yP]at h;cases h⟩
 | y :: b=>by
  obtain⟨i1,i2⟩:=Ut h x b;rw[yP];by_cases hs:same x y=true
  ·rw[if_pos hs];refine⟨λh=>(by cases h),λb' e z=>?_⟩;cases e;rw[eO,h.congr hs z];omega
  ·rw [if_neg hs];constructor
   ·intro e;rw[eO,if_neg hs,i1 (by simpa using e)]
   ·intro b' e z;cases hr:yP same x b with
    |none=>rw[hr]at e;cases e
    |some b1 =>
     rw[hr]at e;cases e;rw[eO,eO,i2 b1 hr z];omega
theorem BN (h:qm same):∀(a b:List α) (z : α),eO same z (eg same a b)=eO same z a-eO same z b
 |[],b,z=>by rw[eg,eO];omega
 | x :: a,b,z=>by
  obtain⟨i1,i2⟩:=Ut h x b;rw[eg];cases hr:yP same x b with
  |none =>
   simp only
   rw[eO,eO,BN h a b z];by_cases hs:same z x=true
   ·have:=WC h hs b;rw[i1 hr]at this;rw[if_pos hs];omega
   ·rw[if_neg hs];omega
  |some b' =>
   simp only
   rw[BN h a b' z,i2 b' hr z,eO];omega
variable {gt : α->α->Bool}
def z6 (same gt : α->α->Bool):Prop:=∀x x' y y',same x x'=true->same y y'=true->gt x y=gt x' y'
theorem EX (h:qm same) (hg:z6 same gt) (a b:List α):mY gt a b=true↔(∀y,0<eO same y b->∃x,0<eO same x a/\gt x y=true)/\∃x,0<eO same x a:=by
 unfold mY;rw[aG,bu,decide_eq_true_eq];constructor
 ·rintro⟨h1,h2⟩;refine⟨λy hy=>?_,?_⟩
  ·obtain⟨y',m,s⟩:=Ls hy;obtain⟨x,m2,hx⟩:=cP.1 (h1 y' m);exact⟨x,Ih h m2,by rw[hg x x y y' (h.refl _) s];exact hx⟩
  ·obtain⟨x,l,rfl⟩:=List.exists_cons_of_length_pos h2;exact⟨x,Ih h (by simp)⟩
 ·rintro⟨h1,x0,h2⟩;refine⟨λy hy=>?_,?_⟩
  ·obtain⟨x,c,hx⟩:=h1 y (Ih h hy);obtain⟨x',m,s⟩:=Ls c;exact cP.2 ⟨x',m,by rw[<-hg x x' y y s (h.refl _)];exact hx⟩
  ·obtain⟨x',m,_⟩:=Ls h2;exact List.length_pos_of_mem m
theorem PT (h:qm same) (a b:List α):a.length+b.length=0↔∀x,eO same x a=0/\eO same x b=0:=by
 constructor
 ·intro e x;have e1:a=[]:=dT.1 (by omega);have e2:b=[]:=dT.1 (by omega);rw[e1,e2];exact⟨rfl,rfl⟩
 ·intro e;have key:∀l:List α,(∀x,eO same x l=0)->l.length=0:=λl hl=>by
   cases l with
   |nil=>rfl
   |cons x l=>have:=Ih h (x:=x) (l:=x :: l) (by simp);have:=hl x;omega
  rw[key a λx=>(e x).1,key b λx=>(e x).2]
theorem Yji (h:qm same) (hg:z6 same gt) {a a' b b':List α} (h1:∀x,eO same x a=eO same x a') (h2:∀x,eO same x b=eO same x b'):vP same gt a b=vP same gt a' b':=by
 have e1:∀x,eO same x (eg same a b)=eO same x (eg same a' b'):=λx=>by rw[BN h,BN h,h1,h2]
 have e2:∀x,eO same x (eg same b a)=eO same x (eg same b' a'):=λx=>by rw[BN h,BN h,h1,h2]
 have o1:mY gt (eg same a b) (eg same b a)=mY gt (eg same a' b') (eg same b' a'):=by
  rw[eK,EX h hg,EX h hg];simp only[e1,e2]
 have o2:mY gt (eg same b a) (eg same a b)=mY gt (eg same b' a') (eg same a' b'):=by
  rw[eK,EX h hg,EX h hg];simp only[e1,e2]
 have o3:(eg same a b).length+(eg same b a).length=0↔(eg same a' b').length+(eg same b' a').length=0:=by
  rw[PT h,PT h];simp only[e1,e2]
 unfold vP;simp only[DT,o1,o2,o3]
end
theorem Yrr:qm pa:=⟨λx=>by simp[pa],λx y h=>by simp[pa]at h ⊢;exact h.symm,λx y z h1 h2=>by simp[pa]at h1 h2 ⊢;exact h1.trans h2⟩
theorem Ykz (gt:Tm->Tm->Bool):z6 pa gt:=λx x' y y' h1 h2=>by
 simp[pa]at h1 h2;rw[h1,h2]
theorem KW (a b:Li):dv a b=true↔a.neg=b.neg/\((a.l=b.l/\a.r=b.r)\/(a.l=b.r/\a.r=b.l)):=by simp[dv,mh]
theorem Ye6:qm dv:=by
 refine⟨λx=>?_,λx y h=>?_,λx y z h1 h2=>?_⟩
 ·rw[KW];exact⟨rfl,.inl ⟨rfl,rfl⟩⟩
 ·rw[KW]at h ⊢;rcases h with⟨a,⟨b,c⟩|⟨b,c⟩⟩
  ·exact⟨a.symm,.inl ⟨b.symm,c.symm⟩⟩
  ·exact⟨a.symm,.inr ⟨c.symm,b.symm⟩⟩
 ·rw[KW]at h1 h2 ⊢;rcases h1 with⟨a,⟨b,c⟩|⟨b,c⟩⟩<;>rcases h2 with⟨a',⟨b',c'⟩|⟨b',c'⟩⟩
  ·exact⟨a.trans a',.inl ⟨b.trans b',c.trans c'⟩⟩
  ·exact⟨a.trans a',.inr ⟨b.trans b',c.trans c'⟩⟩
  ·exact⟨a.trans a',.inr ⟨b.trans c',c.trans b'⟩⟩
  ·exact⟨a.trans a',.inl ⟨b.trans c',c.trans b'⟩⟩
theorem T8 {a b:Li}(h:dv a b=true)(x:Tm):eO pa x (kO a)=eO pa x (kO b):=by
 rw[KW]at h;obtain⟨e,⟨h1,h2⟩|⟨h1,h2⟩⟩:=h
 ·unfold kO;rw[e,h1,h2]
 ·unfold kO;rw[e,h1,h2];split<;>simp only[eO]<;>omega
theorem Yej {g:List Sy}{a a' b b':Li}(h1:dv a a'=true)(h2:dv b b'=true):yd g a b=yd g a' b' :=
 Yji Yrr (Ykz _) (T8 h1) (T8 h2)
theorem Yme (g:List Sy):z6 dv λx y=>decide (yd g x y=1):=λx x' y y' h1 h2=>by simp only[Yej (g:=g) h1 h2]
mutual
def Tm.ap (f:Int->Tm):Tm->Tm
 |.mk h ts=>if h<0 then f (-1-h) else .mk h (Tm.vZ f ts)
def Tm.vZ (f:Int->Tm):List Tm->List Tm
 |[]=>[]
 |t :: ts=>t.ap f :: Tm.vZ f ts
end
theorem Ir (f:Int->Tm):∀ts,Tm.vZ f ts=ts.map (Tm.ap f)
 |[]=>rfl
 |t :: ts=>by simp[Tm.vZ,Ir f ts]
theorem IA {f:Int->Tm}{t:Tm}(h:t.head<0):t.ap f=f (-1-t.head):=by
 cases t;rw[Tm.ap];exact if_pos h
theorem Hc {f:Int->Tm}{t:Tm}(h:¬t.head<0):t.ap f=.mk t.head (t.args.map (Tm.ap f)):=by
 cases t;rw[Tm.ap,Ir];exact if_neg h
mutual
theorem DZ (bs:List Bd):∀t:Tm,t.pd bs=t.ap (ng bs)
 |.mk h ts=>by rw[Tm.pd,Tm.ap,UE bs ts]
theorem UE (bs:List Bd):∀ts:List Tm,Tm.Ch bs ts=Tm.vZ (ng bs) ts
 |[]=>rfl
 |t :: ts=>by rw[Tm.Ch,Tm.vZ,DZ bs t,UE bs ts]
end
mutual
theorem UM (bs:List Bd):∀t:Tm,t.good=true->t.sub bs=t.ap (ng bs)
 |.mk h ts,hg=>by
  have ha:=zD hg;have hh:=(zE hg).2.2.2;simp only[Tm.head,Tm.args]at ha hh;rw[Tm.sub,Tm.ap,Tq bs ts ha];split
  ·rename_i hn;rw[hh hn];unfold r8 ng;simp only[Tm.head];rw[show -1-(-1-h)=h by omega]
  ·rfl
theorem Tq (bs:List Bd):∀ts:List Tm,(∀t∈ts,t.good=true)->Tm.uM bs ts=Tm.vZ (ng bs) ts
 |[],_=>rfl
 |t :: ts,h=>by rw[Tm.uM,Tm.vZ,UM bs t (h t (by simp)),Tq bs ts λx hx=>h x (by simp[hx])]
end
mutual
theorem Ia {f k:Int->Tm}:∀t:Tm,t.iS (λv=>f v=k v)->t.ap f=t.ap k
 |.mk h ts,hv=>by
  rw[Tm.iS]at hv;rw[Tm.ap,Tm.ap,Xv ts hv.2];split
  ·rename_i hn;exact hv.1 hn
  ·rfl
theorem Xv {f k:Int->Tm}:∀ts:List Tm,Tm.ji (λv=>f v=k v) ts->Tm.vZ f ts=Tm.vZ k ts
 |[],_=>rfl
 |t :: ts,hv=>by
  rw[Tm.ji]at hv;rw[Tm.vZ,Tm.vZ,Ia t hv.1,Xv ts hv.2]
end
mutual
theorem M0 {f k:Int->Tm}:∀t:Tm,t.good=true->t.ap f=t.ap k->t.iS (λv=>f v=k v)
 |.mk h ts,hg,he=>by
  have ha:=zD hg;have hh:=(zE hg).2.2.2;simp only[Tm.head,Tm.args]at ha hh;rw[Tm.ap,Tm.ap]at he;rw[Tm.iS];by_cases hn:h<0
  ·rw[if_pos hn,if_pos hn]at he;exact⟨λ_=>he,by rw[hh hn];trivial⟩
  ·rw[if_neg hn,if_neg hn]at he;injection he with _ he;exact⟨λh=>absurd h hn,TH ts ha he⟩
theorem TH {f k:Int->Tm}:∀ts:List Tm,(∀t∈ts,t.good=true)->Tm.vZ f ts=Tm.vZ k ts->Tm.ji (λv=>f v=k v) ts
 |[],_,_=>trivial
 |t :: ts,hg,he=>by
  rw[Tm.vZ,Tm.vZ]at he;injection he with h1 h2;exact⟨M0 t (hg t (by simp)) h1,TH ts (λx hx=>hg x (by simp[hx])) h2⟩
end
theorem VI {α β:Type} (k : α->β):∀(a:List α),∀p∈a.zip (a.map k),k p.1=p.2
 |x :: a,p,h=>by
  rw[aI,jx]at h;rcases aU.1 h with rfl|h
  ·rfl
  ·exact VI k a p h
theorem VJ {α β:Type} (k : α->β):∀(a:List α) (b:List β),a.length=b.length->(∀p∈a.zip b,k p.1=p.2)->a.map k=b
 |[],[],_,_=>rfl
 |x :: a,y :: b,hl,h=>by
  rw[aI,VJ k a b (by simpa using hl) λp hp=>h p (by rw[jx];simp[hp]),h (x,y) (by rw[jx];simp)]
theorem Lx {f:Int->Tm}:∀(S:List (Tm×Tm)) (m:List Bd),(∀x∈S,x.1.ap f=x.2)->(∀b∈m,f b.v=b.t)->∃m',iF S m=some m'/\∀b∈m',f b.v=b.t:=by
 intro S m
 induction S,m using iF.induct with
 |case1 m=>intro _ h;exact⟨m,by rw[iF],h⟩
 |case2 x r m hv c hf he ih =>
  intro h1 h2;obtain⟨m',a1,a2⟩:=ih (λy hy=>h1 y (by simp[hy])) h2;exact⟨m',by rw[iF,if_pos hv,hf];simp only[if_pos he];exact a1,a2⟩
 |case3 x r m hv c hf he =>
  intro h1 h2;refine absurd ?_ he;have e1:=h2 c (ck hf);have e2:=h1 x (by simp);have e3:=iO hf;simp only[beq_iff_eq]at e3;rw[IA (by omega),<-e3]at e2;rw[<-e1,e2]
 | case4 x r m hv hf ih =>
  intro h1 h2;have e2:=h1 x (by simp);rw[IA (by omega)]at e2;obtain⟨m',a1,a2⟩:=ih (λy hy=>h1 y (by simp[hy])) (λb hb=>by
   rcases a_.1 hb with hb|hb
   ·exact h2 b hb
   ·rw[aK.1 hb];exact e2)
  exact⟨m',by rw[iF,if_pos hv,hf];exact a1,a2⟩
 |case5 x r m hv hc =>
  intro h1 _;have e2:=h1 x (by simp);rw[Hc (by omega)]at e2;rcases hc with hc|hc
  ·exact absurd (by rw[<-e2];rfl) hc
  ·exact absurd (by rw[<-e2];simp[Tm.args]) hc
 | case6 x r m hv hc ih =>
  intro h1 h2;have e2:=h1 x (by simp);rw[Hc (by omega)]at e2;have e3:x.2.args=x.1.args.map (Tm.ap f):=by rw[<-e2];rfl
  obtain⟨m',a1,a2⟩:=ih (λy hy=>by
   rcases a_.1 hy with hy|hy
   ·have hy:=du.1 hy;rw[e3]at hy;exact VI _ _ y hy
   ·exact h1 y (by simp[hy])) h2
  exact⟨m',by rw[iF,if_neg hv,if_neg hc];exact a1,a2⟩
theorem Oe:∀(S:List (Tm×Tm)) (m m':List Bd),iF S m=some m'->(∀b∈m,b∈m')/\∀f:Int->Tm,(∀b∈m',f b.v=b.t)->∀x∈S,x.1.ap f=x.2:=by
 intro S m
 induction S,m using iF.induct with
 |case1 m =>
  intro m' h;rw[iF]at h;cases h;exact⟨λ_ h=>h,λf _ x hx=>by cases hx⟩
 |case2 x r m hv c hf he ih =>
  intro m' h;rw[iF,if_pos hv,hf]at h;simp only[if_pos he]at h;obtain⟨a1,a2⟩:=ih m' h;refine⟨a1,λf hb y hy=>?_⟩;rcases aU.1 hy with rfl|hy
  ·have e3:=iO hf;simp only[beq_iff_eq]at e3;rw[IA (by omega),<-e3,hb c (a1 c (ck hf)),he]
  ·exact a2 f hb y hy
 |case3 x r m hv c hf he =>
  intro m' h;rw[iF,if_pos hv,hf]at h;simp only[if_neg he]at h;cases h
 |case4 x r m hv hf ih =>
  intro m' h;rw[iF,if_pos hv,hf]at h;simp only at h;obtain⟨a1,a2⟩:=ih m' h;refine⟨λb hb=>a1 b (by simp[hb]),λf hb y hy=>?_⟩;rcases aU.1 hy with rfl|hy
  ·have:=hb ⟨-1-y.1.head,y.2⟩ (a1 _ (by simp));rw[IA (by omega)];exact this
  ·exact a2 f hb y hy
 |case5 x r m hv hc =>
  intro m' h;rw[iF,if_neg hv,if_pos hc]at h;cases h
 |case6 x r m hv hc ih =>
  intro m' h;rw[iF,if_neg hv,if_neg hc]at h;obtain⟨a1,a2⟩:=ih m' h;refine⟨a1,λf hb y hy=>?_⟩;rcases aU.1 hy with rfl|hy
  ·have e1:y.1.head=y.2.head:=kx λhn=>hc (.inl hn);have e2:y.1.args.length=y.2.args.length:=kx λhn=>hc (.inr hn);rw[Hc (by omega),VJ (Tm.ap f) _ _ e2 λp hp=>a2 f hb p (gb _ (du.2 hp))];exact MZ e1 rfl
  ·exact a2 f hb y (jJ _ hy)
theorem Ysb {Q:Tm->Prop} (hQ:∀t,Q t->∀u∈t.args,Q u):∀(S:List (Tm×Tm)) (m m':List Bd),iF S m=some m'->(∀x∈S,x.1.good=true/\Q x.2)->(∀b∈m,(0<=b.v/\b.v<=255)/\Q b.t)->∀b∈m',(0<=b.v/\b.v<=255)/\Q b.t:=by
 intro S m
 induction S,m using iF.induct with
 |case1 m =>
  intro m' h _ h2;rw[iF]at h;cases h;exact h2
 |case2 x r m hv c hf he ih =>
  intro m' h h1 h2;rw[iF,if_pos hv,hf]at h;simp only[if_pos he]at h;exact ih m' h (λy hy=>h1 y (by simp[hy])) h2
 |case3 x r m hv c hf he =>
  intro m' h;rw[iF,if_pos hv,hf]at h;simp only[if_neg he]at h;cases h
 | case4 x r m hv hf ih =>
  intro m' h h1 h2;rw[iF,if_pos hv,hf]at h;simp only at h;obtain⟨g1,g2⟩:=h1 x (by simp);have gh:=zE g1;exact ih m' h (λy hy=>h1 y (by simp[hy])) λb hb=>by
   rcases a_.1 hb with hb|hb
   ·exact h2 b hb
   ·rw[aK.1 hb];exact⟨⟨hv,by simp only;omega⟩,g2⟩
 |case5 x r m hv hc =>
  intro m' h;rw[iF,if_neg hv,if_pos hc]at h;cases h
 |case6 x r m hv hc ih =>
  intro m' h h1 h2;rw[iF,if_neg hv,if_neg hc]at h;obtain⟨g1,g2⟩:=h1 x (by simp);refine ih m' h (λy hy=>?_) h2;rcases a_.1 hy with hy|hy
  ·have hy:=dC (du.1 hy);exact⟨zD g1 _ hy.1,hQ _ g2 _ hy.2⟩
  ·exact h1 y (by simp[hy])
mutual
theorem XQ {f:Int->Tm}:∀(t u:Tm) (s:List Bd),t.ap f=u->(∀b∈s,f b.v=b.t)->(gI t u s).2=true/\∀b∈(gI t u s).1,f b.v=b.t
 | .mk h ts,u,s,he,hs=>by
  rw[gI];rw[Tm.ap]at he;by_cases hn:h<0
  ·rw [if_pos hn]at he ⊢;cases hf:s.find? (λb=>b.v == -1-h) with
   |some b =>
    have e1:=hs b (ck hf);have e3:=iO hf;simp only[beq_iff_eq]at e3;simp only
    refine⟨?_,hs⟩;rw[decide_eq_true_eq,<-e1,e3,he]
   |none =>
    simp only
    refine⟨trivial,λb hb=>?_⟩;rcases a_.1 hb with hb|hb
    ·exact hs b hb
    ·rw[aK.1 hb];exact he
  ·rw[if_neg hn]at he ⊢;subst he;rw[if_neg (show ¬(h≠(Tm.mk h (Tm.vZ f ts)).head\/ts.length≠(Tm.mk h (Tm.vZ f ts)).args.length) from by simp[Tm.head,Tm.args,Ir])]
   exact NP ts _ s (by rw[<-Ir];rfl) hs
theorem NP {f:Int->Tm}:∀(ts us:List Tm) (s:List Bd),ts.map (Tm.ap f)=us->(∀b∈s,f b.v=b.t)->(ei ts us s).2=true/\∀b∈(ei ts us s).1,f b.v=b.t
 |[],_,s,_,hs=>by rw[ei];exact⟨rfl,hs⟩
 |t :: ts,[],s,he,_=>by simp at he
 |t :: ts,u :: us,s,he,hs=>by
  rw[aI]at he;injection he with h1 h2;obtain⟨a1,a2⟩:=XQ t u s h1 hs;rw[ei,if_pos a1];exact NP ts us _ h2 a2
end
mutual
theorem NT:∀(t u:Tm) (s:List Bd),(gI t u s).2=true->(∀b∈s,b∈(gI t u s).1)/\∀f:Int->Tm,(∀b∈(gI t u s).1,f b.v=b.t)->t.ap f=u
 | .mk h ts,u,s,he=>by
  rw[gI]at he ⊢;by_cases hn:h<0
  ·rw [if_pos hn]at he ⊢;cases hf:s.find? (λb=>b.v == -1-h) with
   |some b =>
    rw[hf]at he;simp only[decide_eq_true_eq]at he ⊢;refine⟨λ_ h=>h,λf hb=>?_⟩;have e3:=iO hf;simp only[beq_iff_eq]at e3;rw[Tm.ap,if_pos hn,<-e3,hb b (ck hf),he]
   |none =>
    simp only
    refine⟨λb hb=>by simp[hb],λf hb=>?_⟩;rw[Tm.ap,if_pos hn];exact hb ⟨-1-h,u⟩ (by simp)
  ·rw[if_neg hn]at he ⊢;by_cases hc:h≠u.head\/ts.length≠u.args.length
   ·rw[if_pos hc]at he;cases he
   ·rw[if_neg hc]at he ⊢;have e1:h=u.head:=kx λhn=>hc (.inl hn);have e2:ts.length=u.args.length:=kx λhn=>hc (.inr hn);obtain⟨a1,a2⟩:=NF ts u.args s e2 he;refine⟨a1,λf hb=>?_⟩;rw[Tm.ap,if_neg hn,Ir,a2 f hb];exact MZ e1 rfl
theorem NF:∀(ts us:List Tm) (s:List Bd),ts.length=us.length->(ei ts us s).2=true->(∀b∈s,b∈(ei ts us s).1)/\∀f:Int->Tm,(∀b∈(ei ts us s).1,f b.v=b.t)->ts.map (Tm.ap f)=us
 |[],[],s,_,_=>by rw[ei];exact⟨λ_ h=>h,λ_ _=>rfl⟩
 |t :: ts,u :: us,s,hl,he=>by
  rw[ei]at he ⊢;by_cases hg:(gI t u s).2=true
  ·rw[if_pos hg]at he ⊢;obtain⟨a1,a2⟩:=NT t u s hg;obtain⟨b1,b2⟩:=NF ts us _ (by simpa using hl) he;refine⟨λb hb=>b1 b (a1 b hb),λf hb=>?_⟩;rw[aI,b2 f hb,a2 f λb hx=>hb b (b1 b hx)]
  ·rw[if_neg hg]at he;cases he
end
mutual
theorem PN:∀(t u:Tm) (s:List Bd),(s.map Bd.v).Nodup->((gI t u s).1.map Bd.v).Nodup
 | .mk h ts,u,s,hs=>by
  rw[gI];split
  ·split
   ·exact hs
   ·rename_i hf;rw[cf,gC];refine⟨hs,by simp,λu hu w hw=>?_⟩;simp only[aI,aR,aK]at hw;subst hw;obtain⟨b,hb,rfl⟩:=cN.1 hu;intro e;exact absurd (by simpa using e) (jw.1 hf b hb)
  ·split
   ·exact hs
   ·exact Px ts u.args s hs
theorem Px:∀(ts us:List Tm) (s:List Bd),(s.map Bd.v).Nodup->((ei ts us s).1.map Bd.v).Nodup
 |[],_,s,hs=>by rw[ei];exact hs
 |_ :: _,[],s,hs=>by rw[ei];exact hs
 |t :: ts,u :: us,s,hs=>by
  rw[ei];split
  ·exact Px ts us _ (PN t u s hs)
  ·exact hs
end
theorem P2:∀l:List Bd,(l.map Bd.v).Nodup->∀b∈l,l.find? (λc=>c.v==b.v)=some b
 | c :: l,h,b,hb=>by
  rw[aI,fM]at h;rw[iN];rcases aU.1 hb with rfl|hb
  ·simp
  ·have dL:¬c.v=b.v:=λe=>h.1 (by rw[e];exact cN.2 ⟨b,hb,rfl⟩);rw[show(c.v==b.v)=false from by simp[dL]]
   exact P2 l h.2 b hb
theorem Yo6 {l:List Bd} (h:(l.map Bd.v).Nodup) (v:Int):l.reverse.find? (λc=>c.v==v)=l.find? (λc=>c.v==v):=by
 cases hf:l.find? (λc=>c.v==v) with
 |some b =>
  have e3:=iO hf;simp only[beq_iff_eq]at e3;have:=P2 l.reverse (by rw[List.map_reverse];exact(List.reverse_perm _).nodup_iff.2 h) b (du.2 (ck hf))
  rwa [e3]at this
 |none =>
  rw[jw]at hf ⊢;exact λx hx=>hf x (du.1 hx)
theorem Ys2 {l:List Bd}(h:(l.map Bd.v).Nodup)(v:Int):ng l.reverse v=ng l v:=by
 unfold ng;rw[Yo6 h]
theorem LN {l:List Bd}(h:(l.map Bd.v).Nodup):∀b∈l,ng l b.v=b.t:=λb hb=>by
 unfold ng;rw[P2 l h b hb];rfl
theorem LO {k:Int->Option Bd} (hk:∀w b,k w=some b->b.v=w) (v:Int):∀L:List Int,(L.filterMap k).find? (λc=>c.v==v)=if v∈L then k v else none
 |[]=>by simp
 | w :: L=>by
  rw[List.filterMap_cons];cases hw:k w with
  |none =>
   simp only
   rw[LO hk v L];by_cases e:v=w
   ·subst e;rw[hw];simp
   ·simp[aU,e]
  | some b =>
   simp only
   rw[iN,LO hk v L,hk w b hw];by_cases e:w=v
   ·subst e;simp[hw]
   ·rw[show(w==v)=false from by simp[e]]
    simp[aU,gV e]
theorem U2 {t:Tm}{v:Int}(hg:t.good=true)(h0 : 0<=v)(h:t.head = -1-v):t=.mk (-1-v) []:=by
 have:=(zE hg).2.2.2 (by omega);cases t;simp only[Tm.head,Tm.args]at h this;rw[h,this]
def kP (m:List Bd)(v:Int):Option Bd:=match m.find? (λc=>c.v==v) with|some c=>if c.t.head = -1-v then none else some ⟨v,c.t⟩|none=>none
theorem J5 (m:List Bd) (w:Int) (b:Bd) (h:kP m w=some b):b.v=w:=by
 unfold kP at h;split at h
 ·split at h
  ·cases h
  ·cases h;rfl
 ·cases h
theorem O6 (m:List Bd)(ks:List Int):jX m ks=ks.filterMap (kP m):=rfl
theorem Yft {m:List Bd} {ks:List Int} (Rs:∀b∈m,b.v∈ks) (hv:∀b∈m,0<=b.v/\b.t.good=true) (v:Int):ng (jX m ks) v=ng m v:=by
 rw[O6];unfold ng;rw[LO (J5 m)];unfold kP;cases hf:m.find? (λc=>c.v==v) with
 |none=>simp
 |some c =>
  have hc:=ck hf;have e3:=iO hf;simp only[beq_iff_eq]at e3;rw[if_pos (by rw[<-e3];exact Rs c hc)];simp only
  by_cases e:c.t.head = -1-v
  ·rw[if_pos e];exact(U2 (hv c hc).2 (by rw[<-e3];exact(hv c hc).1) e).symm
  ·rw[if_neg e];rfl
def kD (s:List Bd)(v:Int):Option Bd:=if (ng s v).head = -1-v then none else some ⟨v,ng s v⟩
theorem Sk (s:List Bd)(w:Int)(b:Bd)(h:kD s w=some b):b.v=w:=by
 unfold kD at h;split at h
 ·cases h
 ·cases h;rfl
theorem Ym1 (s:List Bd):nD s=((List.range 256).map λn:Nat=>(n:Int)).filterMap (kD s):=by
 unfold nD mO;rw[List.filterMap_map];rfl
theorem Xi {s:List Bd} (hg:∀b∈s,b.t.good=true) {v:Int} (h0 : 0<=v) (h1:v<=255):ng (nD s) v=ng s v:=by
 rw[Ym1];have fA:v∈(List.range 256).map λn:Nat=>(n:Int):=cN.2 ⟨v.toNat,cd.2 (by omega),by omega⟩;have e:ng (((List.range 256).map λn:Nat=>(n:Int)).filterMap (kD s)) v=((kD s v).map Bd.t).getD (.mk (-1-v) []):=by
  conv=>lhs;unfold ng
  rw[LO (Sk s),if_pos fA]
 rw[e];unfold kD;by_cases c:(ng s v).head = -1-v
 ·rw [if_pos c];have wQ:(ng s v).good=true:=PX (P:=λt=>t.good=true) hg (by
   simp only[Tm.good,Tm.fy,aF,m9,bX,cZ,decide_eq_false_iff_not,dM];refine⟨⟨⟨.inr (by omega),by omega⟩,by omega⟩,by omega⟩)
  exact(U2 wQ h0 c).symm
 ·rw[if_neg c];rfl
theorem Qf {m:List Bd} (hm:∀b∈m,(0<=b.v/\b.v<=255)/\b.t.check=0):∀(ks:List Int) (a:Int),ks.Pairwise (· < ·)->(∀v∈ks,a<v)->ki a (jX m ks)=0
 |[],_,_,_=>rfl
 | w :: ks,a,hp,ha=>by
  rw[List.pairwise_cons]at hp;rw[O6,List.filterMap_cons,<-O6];cases hw:kP m w with
  |none=>exact Qf hm ks a hp.2 λv hv=>ha v (by simp[hv])
  | some b =>
   simp only
   have hbv:=J5 m w b hw;unfold kP at hw;cases hf:m.find? (λc=>c.v==w) with
   |none=>rw[hf]at hw;cases hw
   | some c =>
    rw[hf]at hw;simp only at hw;have e3:=iO hf;simp only[beq_iff_eq]at e3;have hc:=hm c (ck hf);by_cases e:c.t.head = -1-w
    ·rw[if_pos e]at hw;cases hw
    ·rw [if_neg e]at hw;cases hw;have:=ha w (by simp);rw[ki,if_neg (by
      simp only
      rintro(h|h|h|h)
      ·omega
      ·omega
      ·exact h hc.2
      ·exact e h)]
     exact Qf hm ks w hp.2 hp.1
theorem Yoe {l:List Int}(h:l.Nodup):(iB l).Pairwise (· < ·):=by
 have ht:∀x y z:Int,decide (x<=y)=true->decide (y<=z)=true->decide (x<=z)=true:=λx y z h1 h2=>by simp at *;omega
 have hc:∀x y:Int,(decide (x<=y)||decide (y<=x))=true:=λx y=>by simp;omega
 have h1:(iB l).Pairwise λx y=>decide (x<=y)=true:=List.pairwise_mergeSort ht hc l;have h2:(iB l).Nodup:=(kF l _).nodup_iff.2 h;refine(h1.and h2).imp fun {x y} h=>?_;have h3:=h.1;have h4:=h.2;simp only[decide_eq_true_eq]at h3;omega
theorem Xs {l:List Int}{v:Int}:v∈iB l↔v∈l:=(kF l _).mem_iff
theorem SN {t:Tm}(h:t.check=0):lF [t]=true:=by simp[lF,h]
theorem Lk {t:Tm}(h:t.check=0):jz [t]=false:=by simp[jz,h]
theorem Yce:∀t:Tm,t.check=0->∀u∈t.args,u.check=0:=λt h u hu=>by
 obtain⟨c1,c2,c3⟩:=qZ h;have z1:=sO hu;have z2:=n9 t;have z3:=Wp hu;exact Zp (by omega) (by omega) (zD c3 u hu)
theorem U5 (l u:Tm):(ot [l] [u]).2=(gI l u []).2/\((gI l u []).2=true->(ot [l] [u]).1=(gI l u []).1):=by
 have h:ei [l] [u] []=if (gI l u []).2=true then ((gI l u []).1,true) else ([],false):=by
  rw[ei];split
  ·rw[ei]
  ·rfl
 unfold ot;rw[h];by_cases c:(gI l u []).2=true
 ·simp[c]
 ·simp[c]
theorem Ly {l u:Tm} (hl:l.check=0) (hu:u.check=0) (fl:l.fit) (fu:u.fit) :
  (ft [l] [u]).2.2=0/\(iU [l] [u]).2.2=0/\(ft [l] [u]).2.1=(iU [l] [u]).2.1/\((iU [l] [u]).2.1=true->ki (-1) (iU [l] [u]).1=0/\l.pd (ft [l] [u]).1=u/\∀r:Tm,r.good=true->within r l=true->r.sub (iU [l] [u]).1.reverse=r.pd (ft [l] [u]).1):=by
 obtain⟨l1,_,l3⟩:=qZ hl;obtain⟨u1,_,u3⟩:=qZ hu;have eD:ft [l] [u]=if (gI l u []).2=false then ([],false,0) else (nD (ot [l] [u]).1,true,0):=by
  unfold ft;rw[SN hl,SN hu,if_neg (by simp),(U5 l u).1]
 have eP:iU [l] [u]=match iF [(l,u)] [] with|none=>([],false,0) | some m=>(jX m (iB (m.map Bd.v)),true,0):=by
  unfold iU;rw[Lk hl,Lk hu,if_neg (by simp)];rfl
 cases hg:iF [(l,u)] [] with
 | none =>
  rw [hg]at eP;have:(gI l u []).2=false:=by
   cases hd:(gI l u []).2 with
   |false=>rfl
   |true =>
    obtain⟨_,h2⟩:=NT l u [] hd;have h3:=h2 _ (LN (PN l u [] (by simp)));obtain⟨m',h4,_⟩:=Lx (f:=ng (gI l u []).1) [(l,u)] [] (λx hx=>by rw[aK.1 hx];exact h3) (λb hb=>by cases hb);rw[hg]at h4;cases h4
  rw[if_pos this]at eD;rw[eD,eP];exact⟨rfl,rfl,rfl,λh=>by cases h⟩
 | some m =>
  rw[hg]at eP;simp only at eP;have gE:Bw [(l,u)]:=λx hx=>by rw[aK.1 hx];exact⟨fl,fu,by simp only;omega⟩
  have qA:=(UZ _ _ _ hg gE (λb hb=>by cases hb) (by simp)).2.1;have Dg:=Ysb (Q:=λt=>t.check=0) Yce _ _ _ hg (λx hx=>by rw[aK.1 hx];exact⟨l3,hu⟩) (λb hb=>by cases hb);have hs:=(Oe _ _ _ hg).2 _ (LN qA) (l,u) (by simp);simp only at hs;obtain⟨d1,d2⟩:=XQ l u [] hs (λb hb=>by cases hb);rw[if_neg (by rw[d1];simp),(U5 l u).2 d1]at eD;have uH:=(NT l u [] d1).2 _ (LN (PN l u [] (by simp)));have AE:l.iS λv=>ng m v=ng (gI l u []).1 v:=M0 l l3 (hs.trans uH.symm);have tA:∀b∈(gI l u []).1,b.t.good=true:=Ii (P:=λt=>t.good=true) (λt h=>zD h) l u [] u3 (λb hb=>by cases hb);have hP:∀v,ng (jX m (iB (m.map Bd.v))) v=ng m v:=Yft (λb hb=>Xs.2 (cN.2 ⟨b,hb,rfl⟩)) λb hb=>⟨(Dg b hb).1.1,(qZ (Dg b hb).2).2.2⟩;have I_:ki (-1) (jX m (iB (m.map Bd.v)))=0:=Qf Dg _ _ (Yoe qA) λv hv=>by
   obtain⟨b,hb,rfl⟩:=cN.1 (Xs.1 hv);have:=(Dg b hb).1;omega
  have RE:=(Np _ _ I_).2;have Ho:=Ykd l l3;rw[eD,eP];refine⟨rfl,rfl,rfl,λ_=>⟨I_,?_,λr hr hw=>?_⟩⟩
  ·rw[DZ];refine(Ia l ?_).trans uH;rw[<-EV]at Ho ⊢;exact λv hv=>Xi tA (Ho v hv).1 (by have:=(Ho v hv).2;omega)
  ·rw [UM _ _ hr,DZ];refine Ia r ?_;rw[<-EV]at AE Ho ⊢;intro v hv;have Er:v∈l.vars:=by
    unfold within at hw;exact of_decide_eq_true (bu.1 hw v hv)
   rw[Ys2 RE,hP,AE v Er];exact(Xi tA (Ho v Er).1 (by have:=(Ho v Er).2;omega)).symm
theorem K9 (g:List Sy) (t:Tm):o7 g t=t.cy g:=by
 unfold o7 Tm.cy lN;by_cases h : 0<=t.head
 ·by_cases h2:t.head<(g.length:Int)
  ·have hk:t.head.toNat<g.length:=by omega
   simp[h,h2,hk,List.getD]
  ·have hk:¬t.head.toNat<g.length:=by omega
   simp[h,h2,hk]
 ·simp[h]
theorem Yc9 {g:List Sy}(hs:fH g=true){t:Tm}(h:t.head=0):t.cy g=true:=by
 have h1:=Yc0 hs;have h2:=(W8 hs).1;unfold isTrue at h1;simp only[aG]at h1;unfold Tm.cy lN;rw[h];simp only[aG,decide_eq_true_eq];refine⟨⟨nk _,by omega⟩,?_⟩;have:g.getD (Int.toNat 0) Sy.wF=g.getD 0 Sy.wF:=rfl;rw[this];exact h1.2.2.2
theorem Yt {g:List Sy}{x y:Tm}(hx:x.term g=0)(hy:y.term g=0):(nN x y).check g=0↔¬((x.cy g&&decide (y.head≠0))||(!x.cy g&&y.cy g))=true:=by
 unfold Li.check nN;simp only
 rw[if_neg (λh=>h hx),if_neg (λh=>h hy)];split
 ·simp_all
 ·simp_all
theorem Ynm {g:List Sy}(hs:fH g=true)(l:Li):aW g [l]=l.check g:=by
 unfold aW;rw[if_neg (by rw[hs];simp),if_neg (by simp),dH,dH];split
 ·rfl
 ·rename_i h;exact(jP.1 h).symm
theorem S9 {g:List Sy} {x y:Tm} (hs:fH g=true) (h0:x.cy g=true->x.head≠0) (h:aW g [nN y x]=0):aW g [nN x y]=0:=by
 obtain⟨hy,hx⟩:=HK h;rw[Ynm hs]at h ⊢;rw[Yt hy hx]at h;rw[Yt hx hy];intro hn;apply h;simp only[cb,aG,decide_eq_true_eq,bX]at hn ⊢;rcases hn with⟨a,b⟩|⟨a,b⟩
 ·cases hyt:y.cy g with
  |true=>exact .inl ⟨rfl,h0 a⟩
  |false=>exact .inr ⟨rfl,a⟩
 ·refine .inl ⟨b,λe=>?_⟩;rw[Yc9 hs e]at a;cases a
theorem TE {g:List Sy} {c:List Li} {u:Un} {t:Tm} {e:Li} {n:Int} (hc:iC g c) (hl:iP g u.l) (hr:iP g u.r) (ht:iP g t) (hb:fb u=false) (he:ek e n=(u.l,u.r)) :
  (iJ g e n t c).2=(km g c u t).2/\((km g c u t).2=true->(iJ g e n t c).1=(km g c u t).1):=by
 unfold fb at hb;simp only[cZ,decide_eq_false_iff_not,ij]at hb;obtain⟨qR,v8⟩:=hb;have hs:=KD ht.1;have gM:=(n_ hl.1).1;have Hk:=(n_ ht.1).1;have Ef:=(qZ (n_ hr.1).1).2.2;obtain⟨m1,m2,m3,m4⟩:=Ly gM Hk hl.2 ht.2;unfold iJ km pN;rw[he];simp only
 rw[K9,K9];by_cases c1:u.l.cy g=t.cy g
 ·have n1:¬(u.l.head=0\/u.l.cy g≠t.cy g\/within u.r u.l=false):=by
   rintro(h|h|h)
   ·exact qR h
   ·exact h c1
   ·rw[v8]at h;cases h
  have n2:¬(u.l.cy g≠t.cy g):=λh=>h c1;rw[if_neg n1,if_neg n2];have e1:mT u t=iU [u.l] [t]:=rfl;rw[e1];by_cases c2:(iU [u.l] [t]).2.1=true
  ·obtain ⟨k1,k2,k3⟩:=m4 c2;have n3:¬((ft [u.l] [t]).2.2≠0\/(ft [u.l] [t]).2.1=false):=by rw[m1,m3,c2];simp
   have n4:¬((iU [u.l] [t]).2.2≠0\/(iU [u.l] [t]).2.1=false):=by rw[m2,c2];simp
   rw[if_neg n3,if_neg n4,k2];have k4:=k3 u.r Ef v8;generalize hy:u.r.pd (ft [u.l] [t]).1=y;rw[hy]at k4;have ha:aT u t=if y.check=0 then (y,0) else (gQ,y.check):=by
    unfold aT sy;rw[e1,k4,if_neg];rintro(h|h)
    ·exact h k1
    ·exact h (n_ hr.1).1
   by_cases c3:y.term g=0
   ·have Di:=(n_ c3).1;rw[if_pos Di]at ha;have Hz:iP g y:=by
     have:=(Nb hr (my ht)).1;rw[ha]at this;exact⟨c3,this⟩
    have hk:kT g u t=(eT g t y,0):=by
     unfold kT;rw[ha];have:fv g [t,y]=0:=by rw[fv,if_pos ht.1,fv,if_pos c3,fv]
     simp only[this,if_true]
    have hq:qT g u t c=qv g [nN t y] c:=by unfold qT nN;rw[ha]
    rw[ha,hk,hq];simp only
    rw[if_neg (λh:(0:Int)≠0=>h rfl)];by_cases c4:aW g [nN t y]=0
    ·rw [if_neg (λh=>h.1 c4)];have vL:iC g [nN t y]:=⟨c4,λl hl=>by rw[aK.1 hl];exact⟨ht.2,Hz.2⟩⟩;rw[Yty vL hc];have gE:=Zf ht Hz;by_cases c5:eT g t y=1
     ·rw[c5]at gE ⊢;rw[<-gE];by_cases c6:ub g [nN t y] c = -1
      ·simp[c6]
      ·simp[c6]
     ·rw[show decide (eT g t y=1)=false from by simp[c5]]at gE
      rw[<-gE];simp[c5]
    ·have c7:aW g [nN y t]≠0:=λh=>c4 (S9 hs (λpI h0=>by
      rw[<-c1]at pI;have hh:¬u.l.head<0:=by
       unfold Tm.cy at pI;simp only[aG,decide_eq_true_eq]at pI;omega
      rw[DZ,Hc hh]at k2;rw[<-k2]at h0;exact qR h0) h)
     rw[if_pos ⟨c4,c7⟩];have:(qv g [nN t y] c).2≠0:=by unfold qv;rw[if_pos c4];exact c4
     by_cases c5:eT g t y=1
     ·simp[c5,this]
     ·simp[c5]
   ·have c4:aW g [nN t y]≠0:=λh=>c3 (HK h).2;have c7:aW g [nN y t]≠0:=λh=>c3 (HK h).1;rw[if_pos ⟨c4,c7⟩];by_cases Di:y.check=0
    ·rw [if_pos Di]at ha;have hk:(kT g u t).2≠0:=by
      unfold kT;rw[ha];rw[fv,if_pos ht.1,fv,if_neg c3];exact c3
     rw[ha];simp[hk]
    ·rw[if_neg Di]at ha;rw[ha];simp[Di]
  ·have n3:(ft [u.l] [t]).2.2≠0\/(ft [u.l] [t]).2.1=false:=.inr (by rw[m3];simpa using c2);have n4:(iU [u.l] [t]).2.2≠0\/(iU [u.l] [t]).2.1=false:=.inr (by simpa using c2);rw[if_pos n3,if_pos n4];exact⟨rfl,λh=>by cases h⟩
 ·have n1:u.l.head=0\/u.l.cy g≠t.cy g\/within u.r u.l=false:=.inr (.inl c1);rw[if_pos n1,if_pos (show u.l.cy g≠t.cy g from c1)]
  exact⟨rfl,λh=>by cases h⟩
theorem Ym4 {g:List Sy} {c:List Li} {u:Un} {t:Tm} {e:Li} {n:Int} (hb:fb u=true) (he:ek e n=(u.l,u.r)):(iJ g e n t c).2=false:=by
 unfold fb at hb;simp only[cb,decide_eq_true_eq,bX]at hb;unfold iJ;rw[he];simp only
 rw[if_pos (show u.l.head=0\/u.l.cy g≠t.cy g\/within u.r u.l=false from by
  rcases hb with h|h
  ·exact .inl h
  ·exact .inr (.inr h))]
def Gg (x:Option (Un×Tm)):Option (Int×Tm):=x.map λy=>(y.1.off,y.2)
theorem Wb {g:List Sy} {c:List Li} {s:mG} {u:Un} {e:Li} {n:Int} (hc:iC g c) (hl:iP g u.l) (hr:iP g u.r) (ht:iP g s.t) (he:ek e n=(u.l,u.r)) (us:List Un) :
  Gg (fV (TT g c) s (([u].filter λu=>!fb u)++us))=if (iJ g e n s.t c).2=true then some (u.off,(iJ g e n s.t c).1) else Gg (fV (TT g c) s us):=by
 cases hb:fb u with
 |true =>
  rw[Ym4 hb he];simp[hb]
 |false =>
  obtain⟨h1,h2⟩:=TE hc hl hr ht hb he;rw[h1];simp only[qn,hb,l6,if_true,List.filter_nil,bq,aY];rw[fV];have e1:TT g c u s=km g c u s.t:=rfl;rw[e1];by_cases h:(km g c u s.t).2=true
  ·rw[if_pos h,if_pos h,h2 h];rfl
  ·rw[if_neg h,if_neg h]
theorem Y8 {g:List Sy} {c:List Li} {s:mG} (hc:iC g c) (ht:iP g s.t):∀(es:List (List Li)) (k:Nat),(∀d∈es,∀e∈d,sZ g e) ->
  Gg (fV (TT g c) s ((ln es k).filter λu=>!fb u))=(gq g s.t c es k).map λx=>((x.1:Int),x.2)
 |[],k,_=>by rw[ln,gq];rfl
 | d :: es,k,kp=>by
  have ih:=Y8 hc ht es (k+1) λd hd=>kp d (by simp[hd]);rw[ln,lC];cases hd:u_ d with
  | false =>
   have hu:vT d k=[]:=by
    unfold vT;split
    ·rename_i e;have:e.neg=true:=by simpa[u_] using hd
     rw[if_pos this]
    ·rfl
   rw[hu,On hd];exact ih
  | true =>
   obtain⟨e,rfl⟩:∃e,d=[e]:=by
    match d,hd with
    |[e],_=>exact⟨e,rfl⟩
    |[],h=>simp[u_]at h
    |_ :: _ :: _,h=>simp[u_]at h
   have hn:¬e.neg=true:=by simpa[u_] using hd
   have hu:vT [e] k=[⟨e.l,e.r,(k:Int)⟩]++[⟨e.r,e.l,(k:Int)⟩]:=by
    unfold vT;simp only[if_neg hn];rfl
   obtain⟨r1,r2⟩:=kp [e] (by simp) e (by simp);rw[hu,N2 hd,lC,cg,Wb (e:=e) (n:=0) hc r1 r2 ht rfl,Wb (e:=e) (n:=1) hc r2 r1 ht rfl,ih,Dx];by_cases c1:(iJ g e 0 s.t c).2=true
   ·rw[if_pos c1,if_pos c1];rfl
   ·rw[if_neg c1,if_neg c1];by_cases c2:(iJ g e 1 s.t c).2=true
    ·rw[if_pos c2,if_pos c2];rfl
    ·rw[if_neg c2,if_neg c2]
theorem XP {g:List Sy} {c:List Li} {es:List (List Li)} (hc:iC g c) (kp:∀d∈es,∀e∈d,sZ g e):∀ss:List mG,(∀s∈ss,iP g s.t) ->
  iK g es c ss=(jM (TT g c) (db es) ss).map λx=>(ll c x.1 x.2.2,x.2.1.off)
 |[],_=>rfl
 | s :: ss,hs=>by
  have h:=Y8 hc (hs s (by simp)) es 0 kp;have ih:=XP hc kp ss λx hx=>hs x (by simp[hx]);rw[iK,jM];have hU:((ln es 0).filter λu=>!fb u)=db es:=rfl;rw[hU]at h;cases hf:fV (TT g c) s (db es) with
  |none =>
   rw[hf]at h;cases hd:gq g s.t c es 0 with
   |none=>exact ih
   |some y=>rw[hd]at h;cases h
  | some x =>
   rw[hf]at h;cases hd:gq g s.t c es 0 with
   |none=>rw[hd]at h;cases h
   |some y =>
    rw[hd]at h;have h':(x.1.off,x.2)=((y.1:Int),y.2):=aS h;simp only[bD,Wd];rw[<-(Prod.mk.inj h').1,(Prod.mk.inj h').2]
theorem Zta {g:List Sy} {es:List (List Li)} {c:List Li} (h:qk es c):gY g es c=vl g es c:=by
 unfold gY vl;split
 ·rfl
 ·rename_i hw;have hw:cm g (c :: es)=0:=jP.1 hw;obtain⟨hc,_,kp,_⟩:=Qe h hw;have hS:=XP hc kp (cL c 0) (PA hc);have hD:=λx=>N0 hc kp (cL c 0) (λs hs=>hs) x;unfold mo e9 lM;cases hf:jM (TT g c) (db es) (cL c 0) with
  |none =>
   rw[hf]at hS;rw[hS];simp
  |some x =>
   obtain⟨s,u,t⟩:=x;rw[hf]at hS;have h0:=(hD _ hS).2.2;simp only at h0;rw[hS];simp only[bD,bd];rw[if_neg (by omega)];by_cases c1:aW g (ll c s t)=0
   ·rw[if_pos c1,if_neg (λh=>h c1)]
   ·rw[if_neg c1,if_pos c1]
theorem Ypu {g:List Sy} {us:List Un} {c:List Li} (h0:(e9 g us c).2.2.2=0) (h1:(e9 g us c).2.2.1=true):aW g (e9 g us c).1=0:=by
 unfold e9 lM at h0 h1 ⊢;split
 ·rename_i h;rw[h]at h1;cases h1
 ·rename_i h;rw[h]at h0 h1;simp only at h0 h1 ⊢;split
  ·assumption
  ·rename_i hc;rw[if_neg hc]at h1;cases h1
theorem TB {g:List Sy}{es:List (List Li)}{c:List Li}(hw:cm g (c :: es)=0):vl g es c=e9 g (db es) c:=by
 unfold vl;exact if_neg (λh=>h hw)
theorem Zk {g:List Sy} {es:List (List Li)}:∀(n:Nat) (c:List Li) (u:List Int),qk es c->cm g (c :: es)=0->eJ (gY g es) n c u=eJ (e9 g (db es)) n c u
 |0,_,_,_,_=>rfl
 | n+1,c,u,h,hw=>by
  have e:gY g es c=e9 g (db es) c:=(Zta h).trans (TB hw);have fA:=Xc (g:=g) h;rw[eJ,eJ,e];rw[e]at fA;split
  ·rfl
  ·rename_i h0;have h0:=jP.1 h0;split
   ·rfl
   ·rename_i h1;split
    ·rfl
    ·refine Zk n _ _ (fA h0) ?_;have h2:=Ypu h0 (by simpa using h1);rw[cm,if_neg (λh=>h h2)];rw[cm]at hw;split at hw
     ·rename_i h3;exact absurd hw h3
     ·exact hw
theorem Zu0 {g:List Sy} {es:List (List Li)} {c:List Li} (h:qk es c):eJ (gY g es) 201 c []=cT g es c:=by
 unfold cT ie;by_cases hw:cm g (c :: es)=0
 ·rw[if_neg (λh=>h hw)];exact Zk _ _ _ h hw
 ·rw[if_pos hw,eJ];have e:gY g es c=([],0,false,cm g (c :: es)):=by unfold gY;exact if_pos hw
  rw[e];exact if_pos hw
end Go.Proofs
namespace Go.Proofs
open Go Go.dq
theorem Yti {g:List Sy}{c:List Li}(h:iC g c):zy c/\c.length<=32:=by
 refine⟨λl hl=>?_,(uy h.1).2.1⟩;obtain⟨a1,a2⟩:=sQ h hl;have b1:=(my a1).2;have b2:=(my a2).2;omega
end Go.Proofs
namespace Go.Proofs
open Go Go.dq
theorem UG (g:List Sy)(t:Tm):t.gr g t=false:=by
 rw[Nh,if_neg (λh=>h rfl:¬t.kX g≠t.kX g),if_neg (λh=>h rfl:¬t.head≠t.head),O7]
 repeat' split
 all_goals rfl
theorem O1 {P:List Li->Prop} {S:List Li->List Li×Int×Bool×Int} (hP:∀c,P c->(S c).2.2.2=0->(S c).2.2.1=true->P (S c).1):∀(n:Nat) (c:List Li) (u:List Int),P c->(eJ S n c u).2.2=0 ->
  P (eJ S n c u).1/\(S (eJ S n c u).1).2.2.2=0/\(S (eJ S n c u).1).2.2.1=false/\u.length<=(eJ S n c u).2.1.length/\((S c).2.2.1=true->u.length<(eJ S n c u).2.1.length)/\((S c).2.2.1=false->(eJ S n c u).2.1=u)
 |0,c,u,h,h0=>by rw[eJ]at h0;cases h0
 | n+1,c,u,h,h0=>by
  rw[eJ]at h0 ⊢;by_cases h1:(S c).2.2.2=0
  ·rw [if_neg (λk=>k h1)]at h0 ⊢;by_cases h2:(S c).2.2.1=false
   ·rw[if_pos h2]at h0 ⊢;exact⟨h,h1,h2,ae _,λk=>(by rw[h2]at k;cases k),λ_=>rfl⟩
   ·rw[if_neg h2]at h0 ⊢;have xi:(S c).2.2.1=true:=by simpa using h2
    by_cases h3 : 200<u.length+1
    ·rw[if_pos h3]at h0;cases h0
    ·rw[if_neg h3]at h0 ⊢;obtain⟨a1,a2,a3,a4,_⟩:=O1 hP n _ _ (hP c h h1 xi) h0;rw[aA]at a4;simp only[aq,aF]at a4;exact⟨a1,a2,a3,by omega,λ_=>by omega,λk=>absurd k h2⟩
  ·rw[if_pos h1]at h0;exact absurd h0 h1
theorem Lz {g:List Sy} {es:List (List Li)} {c:List Li} (h:qk es c) (h0:(cT g es c).2.2=0):cm g (c :: es)=0/\iC g (cT g es c).1/\cT g es (cT g es c).1=((cT g es c).1,[],0)/\decide (0<(cT g es c).2.1.length)=(vl g es c).2.2.1:=by
 have hw:cm g (c :: es)=0:=by
  by_cases hw:cm g (c :: es)=0
  ·exact hw
  ·unfold cT ie at h0;rw[if_pos hw]at h0;exact absurd h0 hw
 have hi:=Iz h hw;have e1:cT g es c=eJ (e9 g (db es)) 201 c []:=by unfold cT ie;exact if_neg (λk=>k hw)
 have e2:vl g es c=e9 g (db es) c:=TB hw;rw[e1]at h0;obtain⟨a1,a2,a3,a4,a5,a6⟩:=O1 (P:=iC g) (λd hd k0 _=>SL hi.2.1 hd k0) 201 c [] hi.1 h0;rw[e1,e2];generalize hx:(eJ (e9 g (db es)) 201 c []).1=x at *
 refine⟨hw,a1,?_,?_⟩
 ·have lE:cm g (x :: es)=0:=by
   rw[cm,if_neg (λk=>k a1.1)];rw[cm]at hw;split at hw
   ·rename_i h3;exact absurd hw h3
   ·exact hw
  have e3:cT g es x=eJ (e9 g (db es)) 201 x []:=by unfold cT ie;exact if_neg (λk=>k lE)
  rw[e3,eJ,if_neg (λk=>k a2),if_pos a3]
 ·cases hb:(e9 g (db es) c).2.2.1 with
  |true=>rw[decide_eq_true_eq];exact Nat.lt_of_le_of_lt (aj _) (a5 hb)
  |false=>rw[a6 hb];rfl
mutual
theorem Za {p q:Int->Prop}(h:∀v,p v->q v):∀t:Tm,t.iS p->t.iS q
 |.mk hd ts,hp=>by rw[Tm.iS]at hp ⊢;exact⟨λk=>h _ (hp.1 k),X6 h ts hp.2⟩
theorem X6 {p q:Int->Prop}(h:∀v,p v->q v):∀ts:List Tm,Tm.ji p ts->Tm.ji q ts
 |[],_=>trivial
 |t :: ts,hp=>by rw[Tm.ji]at hp ⊢;exact⟨Za h t hp.1,X6 h ts hp.2⟩
end
theorem Oh {p:Int->Prop}:∀ts:List Tm,Tm.ji p ts↔∀t∈ts,t.iS p
 |[]=>by simp[Tm.ji]
 |t :: ts=>by rw[Tm.ji,Oh ts];simp
theorem Ynb {g:List Sy} {c:List Li} {u:Un} {t:Tm} (hl:iP g u.l) (hr:iP g u.r) (ht:iP g t) (hb:fb u=false) (h:(km g c u t).2=true) :
  ∃s:Int->Tm,u.l.ap s=t/\(km g c u t).1=u.r.ap s/\(u.l.head<0->t.cy g=false):=by
 unfold fb at hb;simp only[cZ,decide_eq_false_iff_not,ij]at hb;obtain⟨qR,v8⟩:=hb;have gM:=(n_ hl.1).1;have Hk:=(n_ ht.1).1;have Ef:=(qZ (n_ hr.1).1).2.2;obtain⟨m1,m2,m3,m4⟩:=Ly gM Hk hl.2 ht.2;unfold km pN at h ⊢;split at h
 ·cases h
 split at h
 ·cases h
 split at h
 ·cases h
 split at h
 ·cases h
 rename_i c1 c2 c3 c4;rw[if_neg c1,if_neg c2,if_neg c3,if_neg c4];simp only
 have e1:mT u t=iU [u.l] [t]:=rfl;have c5:(iU [u.l] [t]).2.1=true:=by
  rw[e1]at c2;cases hc:(iU [u.l] [t]).2.1 with
  |true=>rfl
  |false=>exact absurd (.inr hc) c2
 obtain⟨k1,k2,k3⟩:=m4 c5;have k4:=k3 u.r Ef v8;rw[DZ]at k2 k4;refine⟨_,k2,?_,λhn=>?_⟩
 ·generalize hy:u.r.ap (ng (ft [u.l] [t]).1)=y at *
  have ha:aT u t=if y.check=0 then (y,0) else (gQ,y.check):=by
   unfold aT sy;rw[e1,k4,if_neg];rintro(h|h)
   ·exact h k1
   ·exact h (n_ hr.1).1
  by_cases Di:y.check=0
  ·rw[ha,if_pos Di]
  ·rw[ha,if_neg Di]at c3;exact absurd Di c3
 ·rw[K9,K9]at c1;rw[<-jP.1 c1];have:decide (0<=u.l.head)=false:=by simp;omega
  unfold Tm.cy;rw[this];rfl
def CO (p:Int->Prop)(c:List Li):Prop:=∀l∈c,l.l.iS p/\l.r.iS p
def vr (v:Int):Tm:=.mk (-1-v) []
def Tm.rn (r:Int->Int)(t:Tm):Tm:=t.ap λv=>vr (r v)
structure sm (r:Int->Int)(p:Int->Prop):Prop where
 inj:∀v w,p v->p w->r v=r w->v=w
 pos:∀v,p v->0<=r v/\r v<=255
 non:∀v,p v->0<=v
theorem MY {r:Int->Int}{t:Tm}(h:t.head<0):t.rn r=vr (r (-1-t.head)):=IA h
theorem M7 {r:Int->Int}{t:Tm}(h:¬t.head<0):t.rn r=.mk t.head (t.args.map (Tm.rn r)):=Hc h
theorem P4 {r:Int->Int}{t:Tm}(h:¬t.head<0):(t.rn r).head=t.head/\(t.rn r).args=t.args.map (Tm.rn r):=by rw[M7 h];exact⟨rfl,rfl⟩
theorem N6 {t:Tm}(hg:t.good=true)(h:t.head<0):t.args=[]:=by
 have:=(zE hg).2.2.2;exact this h
theorem Yb {p:Int->Prop}{t:Tm}(h:t.iS p)(hn:t.head<0):p (-1-t.head):=by
 cases t;rw[Tm.iS]at h;exact h.1 hn
theorem Yk7 {p:Int->Prop}{t:Tm}(h:t.iS p):∀u∈t.args,u.iS p:=by
 cases t;rw[Tm.iS,Oh]at h;exact h.2
section
variable {r:Int->Int}{p:Int->Prop}
theorem WH (hr:sm r p) {t:Tm} (hv:t.iS p):(t.rn r).head<0↔t.head<0:=by
 by_cases h:t.head<0
 ·rw[MY h];have:=(hr.pos _ (Yb hv h)).1;have e:(vr (r (-1-t.head))).head = -1-r (-1-t.head):=rfl;rw[e];constructor
  ·intro _;exact h
  ·intro _;omega
 ·rw[(P4 h).1]
theorem O5 (hr:sm r p) (g:List Sy):∀t:Tm,t.iS p->(t.rn r).cy g=t.cy g:=λt hv=>by
 by_cases h1:t.head<0
 ·have h2:=(WH hr hv).2 h1;have e1:decide (0<=(t.rn r).head)=false:=by simp;omega
  have e2:decide (0<=t.head)=false:=by simp;omega
  unfold Tm.cy;rw[e1,e2];rfl
 ·unfold Tm.cy;rw[(P4 h1).1]
mutual
theorem H8 (hr:sm r p) (g:List Sy):∀t:Tm,t.good=true->t.iS p->(t.rn r).size=t.size/\(t.rn r).depth=t.depth/\(t.rn r).good=true/\(t.rn r).known g=t.known g/\(t.rn r).g_ g=t.g_ g/\(t.rn r).kX g=t.kX g/\(t.rn r).fit
 | .mk h ts,hg,hv=>by
  by_cases h1:h<0
  ·rw[MY (t:=.mk h ts) h1];have a1:=N6 hg h1;simp only[Tm.args,Tm.head]at a1;subst a1;have hp:=hr.pos _ (Yb hv h1);simp only[Tm.head]at hp ⊢;have h2 : -1-r (-1-h)<0:=by omega
   refine⟨rfl,rfl,?_,?_,rfl,?_,?_⟩
   ·simp only[vr,Tm.good,Tm.fy,aF,m9,bX,cZ,decide_eq_false_iff_not,dM];exact⟨⟨⟨.inr (by omega),by omega⟩,by omega⟩,by omega⟩
   ·simp only[vr,Tm.known,decide_eq_true h2,decide_eq_true h1,dE]
   ·simp only[vr,Tm.kX];rw[if_pos h2,if_pos h1]
   ·exact⟨by unfold nj;omega,trivial⟩
  ·have oA:=zD hg;have Hx:=Yk7 hv;simp only[Tm.args]at oA Hx;obtain⟨b1,b2,b3,b4,b5,b6,b7⟩:=Ys hr g ts oA Hx;have hh:=zE hg;rw[M7 (t:=.mk h ts) h1];simp only[Tm.head,Tm.args]at hh ⊢;refine⟨?_,?_,?_,?_,?_,?_,?_⟩
   ·rw[Tm.size,Tm.size,b1]
   ·rw[Tm.depth,Tm.depth,b2]
   ·rw[Tm.good]at hg ⊢;rw[ao,b3];simp only[aG]at hg ⊢;exact⟨hg.1,trivial⟩
   ·rw[Tm.known,Tm.known,ao,b4]
   ·rw[Tm.g_,Tm.g_,b5]
   ·rw[Tm.kX,Tm.kX,if_neg h1,if_neg h1,b6]
   ·refine⟨?_,b7⟩;have:=hh;unfold nj;omega
theorem Ys (hr:sm r p) (g:List Sy):∀ts:List Tm,(∀t∈ts,t.good=true)->(∀t∈ts,t.iS p)->Tm.bw (ts.map (Tm.rn r))=Tm.bw ts/\Tm.gH (ts.map (Tm.rn r))=Tm.gH ts/\Tm.fy (ts.map (Tm.rn r))=true/\Tm.e8 g (ts.map (Tm.rn r))=Tm.e8 g ts/\Tm.fp g (ts.map (Tm.rn r))=Tm.fp g ts/\(∀n,Tm.lx g (ts.map (Tm.rn r)) n=Tm.lx g ts n)/\Tm.fits (ts.map (Tm.rn r))
 |[],_,_=>⟨rfl,rfl,rfl,rfl,rfl,λ_=>rfl,trivial⟩
 |t :: ts,hg,hv=>by
  obtain⟨a1,a2,a3,a4,a5,a6,a7⟩:=H8 hr g t (hg t (by simp)) (hv t (by simp));obtain⟨b1,b2,b3,b4,b5,b6,b7⟩:=Ys hr g ts (λx hx=>hg x (by simp[hx])) (λx hx=>hv x (by simp[hx]));have pI:=O5 hr g t (hv t (by simp));rw[aI];refine⟨?_,?_,?_,?_,?_,λn=>?_,a7,b7⟩
  ·rw[Tm.bw,Tm.bw,a1,b1]
  ·rw[Tm.gH,Tm.gH,a2,b2]
  ·rw[Tm.fy,a3,b3];rfl
  ·rw[Tm.e8,Tm.e8,a4,b4]
  ·rw[Tm.fp,Tm.fp,a5,b5,pI]
  ·rw[Tm.lx,Tm.lx,a6,b6]
end
end
theorem Yii {l u:Tm}(hl:l.check=0)(hu:u.check=0)(fl:l.fit)(fu:u.fit):(iU [l] [u]).2.1=true↔∃s:Int->Tm,l.ap s=u:=by
 obtain⟨_,_,_,m4⟩:=Ly hl hu fl fu;constructor
 ·intro h;have:=(m4 h).2.1;rw[DZ]at this;exact⟨_,this⟩
 ·rintro⟨s,h⟩;obtain⟨m',h4,_⟩:=Lx (f:=s) [(l,u)] [] (λx hx=>by rw[aK.1 hx];exact h) (λb hb=>by cases hb);unfold iU;rw[Lk hl,Lk hu,if_neg (by simp)];have e:(List.zip [l] [u]).reverse=[(l,u)]:=rfl;rw[e,h4]
theorem Yza {s k:Int->Tm}{l r:Tm}(hl:l.good=true)(hw:within r l=true)(h:l.ap s=l.ap k):r.ap s=r.ap k:=by
 have h1:=M0 l hl h;refine Ia r ?_;rw[<-EV]at h1 ⊢;intro v hv;unfold within at hw;exact h1 v (of_decide_eq_true (bu.1 hw v hv))
def D0 (g:List Sy)(c:List Li)(t y:Tm):Prop:=aW g [nN t y]=0/\t.gr g y=true/\ub g [nN t y] c = -1
theorem Wq {g:List Sy} {c:List Li} {u:Un} {t:Tm} (hc:iC g c) (hl:iP g u.l) (hr:iP g u.r) (ht:iP g t) (hb:fb u=false) (s:Int->Tm) :
  (u.l.ap s=t/\u.l.cy g=t.cy g/\D0 g c t (u.r.ap s))↔(u.l.ap s=t/\km g c u t=(u.r.ap s,true)):=by
 have ur:=hb;unfold fb at hb;simp only[cZ,decide_eq_false_iff_not,ij]at hb;obtain⟨qR,v8⟩:=hb;have gM:=(n_ hl.1).1;have Hk:=(n_ ht.1).1;have mA:=(qZ gM).2.2;have hs:=KD ht.1;obtain⟨m1,m2,m3,m4⟩:=Ly gM Hk hl.2 ht.2;obtain⟨e1,e2⟩:=TE (e:=⟨false,u.l,u.r⟩) (n:=0) hc hl hr ht ur rfl;have hD:iJ g ⟨false,u.l,u.r⟩ 0 t c=if u.l.head=0\/u.l.cy g≠t.cy g\/within u.r u.l=false then (t,false) else
   if (ft [u.l] [t]).2.2≠0\/(ft [u.l] [t]).2.1=false then (t,false) else
   if aW g [nN (u.l.pd (ft [u.l] [t]).1) (u.r.pd (ft [u.l] [t]).1)]≠0/\aW g [nN (u.r.pd (ft [u.l] [t]).1) (u.l.pd (ft [u.l] [t]).1)]≠0 then (t,false) else
   if (u.l.pd (ft [u.l] [t]).1).gr g (u.r.pd (ft [u.l] [t]).1)=false\/ub g [nN (u.l.pd (ft [u.l] [t]).1) (u.r.pd (ft [u.l] [t]).1)] c≠-1 then (t,false) else (u.r.pd (ft [u.l] [t]).1,true):=rfl
 rw[hD]at e1 e2;refine and_congr_right λAG=>?_;have hM:=(Yii gM Hk hl.2 ht.2).2 ⟨s,AG⟩;obtain⟨k1,k2,_⟩:=m4 hM;have k3:u.r.pd (ft [u.l] [t]).1=u.r.ap s:=by
  rw[DZ]at k2 ⊢;exact Yza mA v8 (k2.trans AG.symm)
 rw[k2,k3]at e1 e2;generalize u.r.ap s=y at *
 have n3:¬((ft [u.l] [t]).2.2≠0\/(ft [u.l] [t]).2.1=false):=by rw[m1,m3,hM];simp
 by_cases c1:u.l.cy g=t.cy g
 ·have n1:¬(u.l.head=0\/u.l.cy g≠t.cy g\/within u.r u.l=false):=by
   rintro(h|h|h)
   ·exact qR h
   ·exact h c1
   ·rw[v8]at h;cases h
  rw [if_neg n1,if_neg n3]at e1 e2;have hh:t.cy g=true->t.head≠0:=λpI h0=>by
   rw[<-c1]at pI;have hh:¬u.l.head<0:=by
    unfold Tm.cy at pI;simp only[aG,decide_eq_true_eq]at pI;omega
   rw[<-AG,Hc hh]at h0;exact qR h0
  by_cases c2:aW g [nN t y]=0
  ·rw [if_neg (λh=>h.1 c2)]at e1 e2;constructor
   ·rintro⟨_,_,a2,a3⟩;have n4:¬(t.gr g y=false\/ub g [nN t y] c≠-1):=by
     rintro(h|h)
     ·rw[a2]at h;cases h
     ·exact h a3
    rw[if_neg n4]at e1 e2;have e3:=e2 e1.symm;exact Prod.ext e3.symm e1.symm
   ·intro h;rw[h]at e1;simp only at e1;split at e1
    ·cases e1
    ·rename_i n4;refine⟨c1,c2,?_,?_⟩
     ·cases hg:t.gr g y with
      |true=>rfl
      |false=>exact absurd (.inl hg) n4
     ·by_cases h3:ub g [nN t y] c = -1
      ·exact h3
      ·exact absurd (.inr h3) n4
  ·have c3:aW g [nN y t]≠0:=λh=>c2 (S9 hs hh h);rw[if_pos ⟨c2,c3⟩]at e1 e2;constructor
   ·rintro⟨_,a1,_⟩;exact absurd a1 c2
   ·intro h;rw[h]at e1;cases e1
 ·have n1:u.l.head=0\/u.l.cy g≠t.cy g\/within u.r u.l=false:=.inr (.inl c1);rw[if_pos n1]at e1;constructor
  ·rintro⟨h,_⟩;exact absurd h c1
  ·intro h;rw[h]at e1;cases e1
theorem XH {g:List Sy}{c:List Li}{u:Un}{t:Tm}(hc:iC g c)(hl:iP g u.l)(hr:iP g u.r)(ht:iP g t)(hb:fb u=false):(km g c u t).2=true↔∃s:Int->Tm,u.l.ap s=t/\u.l.cy g=t.cy g/\D0 g c t (u.r.ap s):=by
 constructor
 ·intro h;obtain⟨s,h1,h2,_⟩:=Ynb hl hr ht hb h;exact⟨s,(Wq hc hl hr ht hb s).2 ⟨h1,Prod.ext h2 h⟩⟩
 ·rintro⟨s,h⟩;rw[((Wq hc hl hr ht hb s).1 h).2]
section
variable {α:Type}{same gt : α->α->Bool}{P : α->Prop}{f : α->α}
end
def Li.rn (r:Int->Int)(l:Li):Li:=⟨l.neg,l.l.rn r,l.r.rn r⟩
def Dr (r:Int->Int)(c:List Li):List Li:=c.map (Li.rn r)
def Kb (p:Int->Prop)(t:Tm):Prop:=t.good=true/\t.iS p
def Dp (p:Int->Prop)(l:Li):Prop:=Kb p l.l/\Kb p l.r
section
variable {r:Int->Int}{p:Int->Prop}
theorem Ypd (hr:sm r p){t:Tm}(h:Kb p t):(t.rn r).check=t.check:=by
 obtain⟨a1,a2,a3,_⟩:=H8 hr [] t h.1 h.2;unfold Tm.check;rw[a1,a2,a3,h.1]
theorem Ui (hr:sm r p)(g:List Sy){t:Tm}(h:Kb p t):(t.rn r).term g=t.term g:=by
 obtain⟨_,_,_,a4,a5,_⟩:=H8 hr g t h.1 h.2;unfold Tm.term;rw[Ypd hr h,a4,a5]
theorem Ym3 (hr:sm r p){t:Tm}(h:Kb p t):(t.rn r).head=0↔t.head=0:=by
 by_cases h1:t.head<0
 ·have:=(WH hr h.2).2 h1;constructor<;>intro<;>omega
 ·rw[(P4 h1).1]
theorem Xb9 (hr:sm r p)(g:List Sy){l:Li}(h:Dp p l):(l.rn r).check g=l.check g:=by
 unfold Li.check Li.rn;simp only[Ui hr g h.1,Ui hr g h.2,O5 hr g _ h.1.2,O5 hr g _ h.2.2,Ym3 hr h.2,ne_eq]
theorem Uj (hr:sm r p) (g:List Sy):∀ {c:List Li},(∀l∈c,Dp p l)->dH g (Dr r c)=dH g c
 |[],_=>rfl
 |l :: c,h=>by
  rw[show Dr r (l :: c)=l.rn r :: Dr r c from rfl,dH,dH,Xb9 hr g (h l (by simp)),Uj hr g λx hx=>h x (by simp[hx])]
theorem Yiq (hr:sm r p)(g:List Sy){c:List Li}(h:∀l∈c,Dp p l):aW g (Dr r c)=aW g c:=by
 unfold aW;rw[Uj hr g h];simp[Dr]
theorem Yv8 {g:List Sy}{c:List Li}(h:iC g c)(hp:CO p c):∀l∈c,Dp p l:=λl hl=>by
 obtain⟨a1,a2⟩:=sQ h hl;exact⟨⟨(qZ (n_ a1.1).1).2.2,(hp l hl).1⟩,(qZ (n_ a2.1).1).2.2,(hp l hl).2⟩
theorem Yzo (hr:sm r p){g:List Sy}{c:List Li}(h:iC g c)(hp:CO p c):iC g (Dr r c):=by
 have hk:=Yv8 h hp;refine⟨by rw[Yiq hr g hk];exact h.1,λl hl=>?_⟩;obtain⟨x,hx,rfl⟩:=cN.1 hl;exact⟨(H8 hr g _ (hk x hx).1.1 (hk x hx).1.2).2.2.2.2.2.2,(H8 hr g _ (hk x hx).2.1 (hk x hx).2.2).2.2.2.2.2.2⟩
end
end Go.Proofs
