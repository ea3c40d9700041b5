/- Part 48 of what the claim rests on. -/
import Derived.Test.YtfjbdamcmiglgaaGreatOwn47
set_option linter.all false
namespace Go.Proofs
open Go Go.dq
theorem WQ:∀(vs:List Int) (n:Nat) (v:Int),jm n (vs++[v])=jm n vs++[⟨v,vr ((n+vs.length:Nat):Int)⟩]
 |[],n,v=>rfl
 |x :: vs,n,v=>by
  rw[bq,jm,WQ vs (n+1) v,jm,aq];rw[show n+1+vs.length=n+(vs.length+1) by omega];rfl
theorem OT:∀(vs:List Int) (n:Nat),(jm n vs).length=vs.length
 |[],_=>rfl
 |x :: vs,n=>by rw[jm,aq,OT vs,aq]
theorem Ybz (vs:List Int) (h:vs.length<1000000):az Tryz.prog 118 [.ps 1 (ints vs)] (.ps 3 (dp (jm 0 vs))):=by
 refine az.iq (rs:=[.tmp 2]) (m:=21) Tryz.func118 rfl rfl rfl (by decide) (of_eq_true (nq _)) ?_;refine aC.pad 1 (ae _) (by simp[go_sem,cY]) trivial ?_;refine aC.g ?_;simp only[go_sem];refine aC.ep (ι:={i:Nat // i<=vs.length}) 1000 (λq=>dV 22 [(0,.ps 1 (ints vs)),(2,.a8),(3,eR 0 3 (dp (jm 0 (vs.take q.1)))),(4,.int .i64 q.1)])
  (λq=>[cX (dp (jm 0 (vs.take q.1)))]) (λq=>vs.length-q.1) ⟨0,aj _⟩ [] ?_ (λ_=>by simp) ?_
 ·refine eL rfl ?_;simp only[go_sem,jh,show dp (jm 0 [])=[] from rfl,pU,pC,cY,bT (cY _)]
 ·rintro ⟨i,hi⟩;by_cases bx:(i:Int)<vs.length
  ·have aL:i<vs.length:=by omega
   have hw:=W1' i (by omega)
   have g1:=vu aL;have hv:=Qa (i:Int) (by omega);rw[show Tm.mk (-1-(i:Int)) []=vr i from rfl]at hv
   have rD:jm 0 (vs.take (i+1))=jm 0 (vs.take i)++[⟨vs[i],vr i⟩]:=by
    rw[cx,ax aL,dx,WQ,bN,ly (by omega),br]
   have ME:(jm 0 (vs.take i)).length<=i:=by rw[OT,bN];omega
   generalize hq:jm 0 (vs.take i)=q at *
   generalize vs[i]=v at *
   have ho:=of_eq_true (E1 [⟨v,vr i⟩]);have e1:dp [(⟨v,vr i⟩:Bd)]=[.agg [.int .i64 v,.int .i64 (vr i).head,.ps 2 ((vr i).args.map Tm.aH)]]:=rfl;rw[e1]at ho;have lw:=of_eq_true (nq (n:=0) (q++[⟨v,vr i⟩]));rw[EZ,e1]at lw;have pI:List.take 1 [ah.agg [.int .i64 v,.int .i64 (vr i).head,.ps 2 ((vr i).args.map Tm.aH)]]=[.agg [.int .i64 v,.int .i64 (vr i).head,.ps 2 ((vr i).args.map Tm.aH)]]:=rfl;generalize vr i=z at *
   simp only[go_sem,bx,ja,hq];refine aC.draw [⟨none,[],[1]⟩,.no,.no,.no,.no,.no,.no,.no,⟨some 1,[1],[]⟩,⟨some 2,[0,2],[]⟩] 1 3 mixed rfl rfl (by decide) ?_;simp only[go_sem,cM,g1,bx,ja]
   (repeat((with_reducible refine And.intro ?_ ?_);·omega))
   refine jS hv (bL _ _ _) ⟨trivial,trivial⟩ ?_;have h3:bW [cX (dp q),some (.row [.agg [.int .i64 v,.int .i64 z.head,.ps 2 (z.args.map Tm.aH)]] 0),none] 0=cX (dp q):=rfl;simp only[go_sem,dO,qg h3,ho,pI,q_]
   (repeat((with_reducible refine And.intro ?_ ?_);·omega))
   refine aC.g ?_;simp only[go_sem];refine⟨⟨i+1,aL⟩,[(0,2),(2,0)],eL rfl ?_,by simp only;omega⟩;simp only[rD];rw[EZ,e1,qP (by simp),qQ (by simp),q_];simp only[go_sem,hw,cY,bT (cY _),bT lw,iD (aj _) lw]
  ·have dm:i=vs.length:=by omega
   subst dm;rw[bQ];simp only[go_sem,bx,ja];refine aC.g ?_;simp only[go_sem,nI]
def r6 (bs:List Bd)(l:Li):Li:=⟨l.neg,l.l.pd bs,l.r.pd bs⟩
theorem Yfh (bs:List Bd) (c:List Li) (hb:bs.length<1000000) (hc:c.length<1000000) (hg:∀l∈c,(l.l.good=true/\l.l.size<=1000000)/\l.r.good=true/\l.r.size<=1000000) :
  az Tryz.prog 117 [.ps 3 (dp bs),.ps 5 (lits c)] (.ps 5 (lits (c.map (r6 bs)))):=by
 refine az.iq (rs:=[.tmp 4]) (m:=35) Tryz.func117 rfl rfl rfl (by decide) (bI _) ?_;refine aC.pad 1 (ae _) (by simp[go_sem,bI]) trivial ?_;refine aC.g ?_;simp only[go_sem];refine aC.ep (ι:={i:Nat // i<=c.length}) 1000 (λq=>dV 37 [(0,.ps 3 (dp bs)),(1,.ps 5 (lits c)),(4,.a8),(5,eR 0 5 (lits ((c.take q.1).map (r6 bs)))),(6,.int .i64 q.1)])
  (λq=>[cX (lits ((c.take q.1).map (r6 bs)))]) (λq=>c.length-q.1) ⟨0,aj _⟩ [] ?_ (λ_=>by simp) ?_
 ·refine eL rfl ?_;simp only[go_sem,jh,aR,show lits []=[] from rfl,pU,pC,bI,bT (bI _),bT (of_eq_true (nq bs))]
 ·rintro ⟨i,hi⟩;by_cases bx:(i:Int)<c.length
  ·have aL:i<c.length:=by omega
   have hw:=W1' i (by omega)
   have g1:=qs aL;obtain⟨⟨p1,p2⟩,p3,p4⟩:=hg _ (ay aL);have k1:=LK bs hb c[i].l p1 p2;have k2:=LK bs hb c[i].r p3 p4;have rD:(c.take (i+1)).map (r6 bs)=(c.take i).map (r6 bs)++[⟨c[i].neg,c[i].l.pd bs,c[i].r.pd bs⟩]:=by
    rw[cx,ax aL,dx,cf];rfl
   have ME:((c.take i).map (r6 bs)).length<=i:=by rw[ao,bN];omega
   generalize hq:(c.take i).map (r6 bs)=q at *
   generalize c[i]=l at *
   generalize l.l.pd bs=a at *
   generalize l.r.pd bs=b at *
   have nz:=of_eq_true (CJ [(⟨l.neg,a,b⟩:Li)]);have A_:lits [(⟨l.neg,a,b⟩:Li)]=[.agg [.bool l.neg,.int .i64 a.head,.ps 2 (a.args.map Tm.aH),.int .i64 b.head,.ps 2 (b.args.map Tm.aH)]]:=rfl;rw[A_]at nz;have qi:lits (q++[(⟨l.neg,a,b⟩:Li)])=lits q++[.agg [.bool l.neg,.int .i64 a.head,.ps 2 (a.args.map Tm.aH),.int .i64 b.head,.ps 2 (b.args.map Tm.aH)]]:=by rw[<-A_];simp[lits]
   have lw:bG 0 (lits (q++[(⟨l.neg,a,b⟩:Li)])):=bI _;rw[qi]at lw;have pI:List.take 1 [ah.agg [.bool l.neg,.int .i64 a.head,.ps 2 (a.args.map Tm.aH),.int .i64 b.head,.ps 2 (b.args.map Tm.aH)]]=[.agg [.bool l.neg,.int .i64 a.head,.ps 2 (a.args.map Tm.aH),.int .i64 b.head,.ps 2 (b.args.map Tm.aH)]]:=rfl;have h3:bW [cX (lits q),some (.row [.agg [.bool l.neg,.int .i64 a.head,.ps 2 (a.args.map Tm.aH),.int .i64 b.head,.ps 2 (b.args.map Tm.aH)]] 0),none] 0=cX (lits q):=rfl;simp only[go_sem,bx,dA,hq];refine aC.draw [⟨none,[],[1]⟩,.no,.no,.no,.no,.no,.no,.no,.no,.no,.no,.no,.no,.no,.no,.no,.no,.no,.no,.no,.no,⟨some 1,[1],[]⟩,⟨some 2,[0,2],[]⟩] 1 3 mixed rfl rfl (by decide) ?_;simp only[go_sem,cM,g1,bx,dA,gf]
   (repeat((with_reducible refine And.intro ?_ ?_);·omega))
   refine jS k1 (by(try simp only[cq]);exact bL _ _ _) ⟨of_eq_true (nq _),cV _,trivial⟩ ?_
   simp only[go_sem,cM,g1,bx,dA,gf,dO]
   (repeat((with_reducible refine And.intro ?_ ?_);·omega))
   refine jS k2 (by(try simp only[cq]);exact bL _ _ _) ⟨of_eq_true (nq _),cV _,trivial⟩ ?_
   simp only[go_sem,dO,qg h3,nz,pI,dA]
   (repeat((with_reducible refine And.intro ?_ ?_);·omega))
   refine aC.g ?_;simp only[go_sem];refine⟨⟨i+1,aL⟩,[(0,2),(2,0)],eL rfl ?_,by simp only;omega⟩;simp only[rD];rw[qi,qP (by simp),qQ (by simp)];simp only[go_sem,hw,dA,bI,bT (bI _),bT (of_eq_true (nq bs)),bT lw,iD (aj _) lw]
  ·have dm:i=c.length:=by omega
   subst dm;rw[bQ];simp only[go_sem,bx,dA];refine aC.g ?_;simp only[go_sem,nI]
theorem Xq {g:List Sy}{d:List Li}(hd:iC g d):lF (cH d)=true:=by
 unfold lF;rw[bu];intro t ht;unfold cH at ht;rw[mS]at ht;obtain⟨l,hl,ht⟩:=ht;obtain⟨a1,a2⟩:=sQ hd hl;simp only[aU,dU,or_false]at ht;rcases ht with rfl|rfl
 ·simp[(n_ a1.1).1]
 ·simp[(n_ a2.1).1]
theorem Ydu {g:List Sy} {d:List Li} (hd:iC g d):az Tryz.prog 79 [.ps 5 (lits d)] (.dw [.ps 5 (lits (px d)),.int .i64 0]):=by
 refine az.begin (rs:=[.tmp 2,.tmp 3]) (m:=12) 1000 Tryz.func79 rfl rfl rfl (by decide) ⟨bI _,trivial,trivial⟩ ?_;obtain⟨hf,hs,hl⟩:=EN hd;have hT:=HV d (by omega);have hA:=LI (cH d) (λt ht=>by have:=sO ht;omega) (by rw[EM];omega);rw[Xq hd]at hA;have hV:=Yjz d (by omega) hf (by omega);have Er:=Lh (cH d) [];have FZ:(eY d).length<1000000:=by unfold eY;simp only[aF]at Er;omega
 have hN:=Ybz (eY d) FZ;have hP:=Yfh (jm 0 (eY d)) d (by rw[OT];exact FZ) (by omega) (λl hl=>by
  obtain⟨a1,a2⟩:=sQ hd hl;have b1:=qZ (n_ a1.1).1;have b2:=qZ (n_ a2.1).1;exact⟨⟨b1.2.2,by omega⟩,b2.2.2,by omega⟩)
 rw[show d.map (r6 (jm 0 (eY d)))=xY d from rfl,Yhq hd]at hP
 generalize jm 0 (eY d)=bs at *
 generalize eY d=vs at *
 generalize cH d=ts at *
 generalize px d=y at *
 simp only[go_sem];refine ak.bm [] (hT) (bL _ _ _) (by simp[go_sem,bI]) ?_;rw[eW];simp only[ite_self];refine aC.g ?_;simp only[go_sem];refine ak.bm [] (hA) (bL _ _ _) (by simp[go_sem,bC]) ?_;simp only[bj,bA,bz,if_true];refine aC.g ?_;simp only[go_sem];refine ak.bm [] (hV) (bL _ _ _) (by simp[go_sem,bI]) ?_;rw[eW];simp only[ite_self];refine aC.g ?_;simp only[go_sem];refine ak.bm [] (hN) (bL _ _ _) (by simp[go_sem,cY]) ?_;rw[eW];simp only[ite_self];refine aC.g ?_;simp only[go_sem];refine ak.bm [] hP (bL _ _ _) ⟨of_eq_true (nq _),bI _,trivial⟩ ?_;rw[eW];simp only[ite_self];refine aC.g ?_;simp only[go_sem]
theorem Zy2 (c:List Li) (k:Nat) (hk:k<c.length) (hc:c.length<1000000):az Tryz.prog 82 [.ps 5 (lits c),.int .i64 k] (.ps 5 (lits (c.eraseIdx k))):=by
 refine az.begin (rs:=[.tmp 4]) (m:=15) 1000 Tryz.func82 rfl rfl rfl (by decide) (bI _) ?_;have hw:=W1' k (by omega)
 have ht:List.take k (lits c)=lits (c.take k):=by unfold lits;rw[m_]
 have hd:List.drop (k+1) (lits c)=lits (c.drop (k+1)):=by unfold lits;rw[List.map_drop]
 have o1:=of_eq_true (CJ (c.take k));have o2:=of_eq_true (CJ (c.drop (k+1)));have l1:(lits (c.take k)).length=k:=by rw[dA,bN];omega
 have l2:(lits (c.drop (k+1))).length=c.length-(k+1):=by rw[dA,cr]
 have he:lits (c.eraseIdx k)=lits (c.take k)++lits (c.drop (k+1)):=by rw[i_];simp[lits]
 have hle:k<=1000000000:=by omega
 rw[he];have xj:List.take (c.length-(k+1)) (List.drop (k+1) (lits c))=lits (c.drop (k+1)):=by rw[hd,aO (by rw[l2];exact ae _)]
 have tB:List.take k (lits (c.take k))=lits (c.take k):=aO (by rw[l1];exact ae _);have zh:c.length-(k+1)<=1000000000:=by omega
 by_cases k0:k=0
 ·subst k0;have hz:lits (c.take 0)=[]:=rfl;rw[hz,aY];simp only[br]at xj l2 zh o2 ⊢;by_cases c1:c.length-1=0
  ·have hn:lits (c.drop 1)=[]:=dT.1 (by rw[l2];exact c1);rw[hn]at xj o2 ⊢;simp only[go_sem,dA,hw,ht,o1,hz,aF,xj,hn];exact⟨by omega,by omega,o2⟩
  ·simp only[go_sem,dA,hw,ht,o1,hz,aF,xj,o2,l2,c1,zh];rw[aO (by rw[l2];exact ae _)];exact⟨by omega,by omega,bL _ _ _⟩
 ·simp only[go_sem,dA,hw,ht,o1,l1,k0,hle,xj,o2,l2,tB,aA];rw[aO (l:=lits (c.take k)++lits (c.drop (k+1))) (by rw[aA,l1,l2];exact ae _)];exact⟨⟨by omega,by omega⟩,⟨by omega,by omega⟩,⟨by omega,by omega⟩,bL _ _ _⟩
def sA (l:List (List Bd)):List ah:=l.map λm=>.ps 3 (dp m)
@[go_sem]theorem H3 (l:List (List Bd)):(sA l).length=l.length:=by simp[sA]
theorem CD {n:Nat}(l:List (List Bd)):bG n (sA l):=wx λ_ _=>of_eq_true (nq _)
theorem Tg {l:List (List Bd)}{i:Nat}(h:i<l.length):(sA l).getD i .undef=.ps 3 (dp l[i]):=jT h
theorem L9 (m:List Bd):eE ⟨1,false,24,[.a8],.slice⟩ [.ps 3 (dp m)]:=⟨λx hx=>by rw[aK.1 hx];exact⟨rfl,rfl⟩,by decide,by decide,rfl⟩
theorem VQ (l:Li):az Tryz.prog 181 [l.aH] (.bool (ia l)):=by
 refine az.begin (rs:=[.tmp 2]) (m:=12) 1000 Tryz.func181 rfl rfl rfl (by decide) trivial ?_;unfold ia;by_cases h1:l.l.head=0
 ·simp only[go_sem,gf,h1,decide_true,dE]
 ·by_cases h2:l.r.head=0
  ·simp only[go_sem,gf,h1,h2,decide_true,decide_false,Bool.or_true]
  ·simp only[go_sem,gf,h1,h2,decide_false,fX]
def HD (l:Li):Prop:=(l.l.good=true/\l.l.size<=400)/\l.r.good=true/\l.r.size<=400
theorem Zb (p t:List Tm)(s:List Bd):yt p t s=if (wK p t s).2=true then [(wK p t s).1] else []:=by
 unfold yt wK;by_cases h:(ei p t s).2=true
 ·rw[if_pos h,if_pos h,if_pos h]
 ·rw[if_neg h,if_neg h,if_neg (by simp)]
set_option maxHeartbeats 1000000 in
theorem YW (a b:Li) (s:List Bd) (ha:HD a) (hb:HD b) (hs:s.length<100000) (eM:∀z∈s,z.t.size<1000000) :
  az Tryz.prog 151 [a.aH,b.aH,.ps 3 (dp s)] (.ps 1 (sA (jE a b s))):=by
 refine az.begin (rs:=[.tmp 6]) (m:=63) 1000 Tryz.func151 rfl rfl rfl (by decide) (CD _) ?_;simp only[go_sem,gf];refine aC.draw [] 2 2 mixed rfl rfl (by decide) ?_;simp only[go_sem,cM,gf];refine jS (VQ a) (bL _ _ _) ⟨jU _,trivial⟩ ?_;simp only[go_sem,cM,gf];refine jS (VQ b) (bL _ _ _) ⟨jU _,trivial⟩ ?_;simp only[go_sem,cM,gf];cases hk:(ia a==ia b) with
 |false =>
  have hm:jE a b s=[]:=by unfold jE;rw[if_pos (by simpa using hk)]
  rw[hm];refine aC.g ?_;simp only[go_sem,hk,show sA []=[] from rfl]
 |true =>
 have hm:jE a b s=yt [a.l,a.r] [b.l,b.r] s++yt [a.l,a.r] [b.r,b.l] s:=by unfold jE;rw[if_neg (by simpa using hk)]
 rw[hm,Zb,Zb];refine aC.g ?_;have JN:Tm.bw [a.l,a.r]<100000:=by simp only[Tm.bw];have:=ha.1.2;have:=ha.2.2;omega
 have hpB:Tm.bw [b.l,b.r]<100000:=by simp only[Tm.bw];have:=hb.1.2;have:=hb.2.2;omega
 have FQ:Tm.bw [b.r,b.l]<100000:=by simp only[Tm.bw];have:=hb.1.2;have:=hb.2.2;omega
 have oA:∀x∈[a.l,a.r],x.good=true:=λx hx=>by
  simp only[aU,dU,or_false]at hx;rcases hx with rfl|rfl
  ·exact ha.1.1
  ·exact ha.2.1
 have e1 : [a.l,a.r].map Tm.aH=[.agg [.int .i64 a.l.head,.ps 2 (a.l.args.map Tm.aH)],.agg [.int .i64 a.r.head,.ps 2 (a.r.args.map Tm.aH)]]:=by simp[cq]
 have e2 : [b.l,b.r].map Tm.aH=[.agg [.int .i64 b.l.head,.ps 2 (b.l.args.map Tm.aH)],.agg [.int .i64 b.r.head,.ps 2 (b.r.args.map Tm.aH)]]:=by simp[cq]
 have e3 : [b.r,b.l].map Tm.aH=[.agg [.int .i64 b.r.head,.ps 2 (b.r.args.map Tm.aH)],.agg [.int .i64 b.l.head,.ps 2 (b.l.args.map Tm.aH)]]:=by simp[cq]
 have h0:sA []=[]:=rfl;have h1:∀m,sA [m]=[.ps 3 (dp m)]:=λ_=>rfl;have h2:∀m n,sA [m,n]=[.ps 3 (dp m),.ps 3 (dp n)]:=λ_ _=>rfl;cases lJ:dp s with
 | nil =>
  have sI:s=[]:=by cases s with|nil=>rfl|cons z s=>simp[dp]at lJ
  subst sI;have k1:=Nw [a.l,a.r] [b.l,b.r] rfl JN hpB oA;have k2:=Nw [a.l,a.r] [b.r,b.l] rfl JN FQ oA;rw[show ot [a.l,a.r] [b.l,b.r]=wK [a.l,a.r] [b.l,b.r] [] from rfl,e1,e2]at k1
  rw[show ot [a.l,a.r] [b.r,b.l]=wK [a.l,a.r] [b.r,b.l] [] from rfl,e1,e3]at k2
  generalize wK [a.l,a.r] [b.l,b.r] []=z1 at *
  generalize wK [a.l,a.r] [b.r,b.l] []=z2 at *
  obtain⟨m1,o1⟩:=z1;obtain⟨m2,o2⟩:=z2;have q1:=L9 m1;have q2:=L9 m2;simp only[go_sem,hk,lJ,aF];refine⟨of_eq_true (E1 []),?_⟩;refine ak.tree (args':=[.ps 2 [.agg [.int .i64 a.l.head,.ps 2 (a.l.args.map Tm.aH)],.agg [.int .i64 a.r.head,.ps 2 (a.r.args.map Tm.aH)]],.ps 2 [.agg [.int .i64 b.l.head,.ps 2 (b.l.args.map Tm.aH)],.agg [.int .i64 b.r.head,.ps 2 (b.r.args.map Tm.aH)]],.a8]) [2,3] ?_ ?_
  ·simp only[go_sem,k_,lb]
  refine dn.c ?_;refine ak.bm [] k1 (bL _ _ _) ⟨by rw[<-e1];exact bC _,by rw[<-e2];exact bC _,trivial,trivial⟩ ?_;rw[eW];simp only[ite_self];refine aC.g ?_;cases o1 with
  |false =>
   simp only[go_sem,k_,lb,fw,iW,aF,q1];refine⟨of_eq_true (E1 []),?_⟩;refine ak.tree (args':=[.ps 2 [.agg [.int .i64 a.l.head,.ps 2 (a.l.args.map Tm.aH)],.agg [.int .i64 a.r.head,.ps 2 (a.r.args.map Tm.aH)]],.ps 2 [.agg [.int .i64 b.r.head,.ps 2 (b.r.args.map Tm.aH)],.agg [.int .i64 b.l.head,.ps 2 (b.l.args.map Tm.aH)]],.a8]) [4,5] ?_ ?_
   ·simp only[go_sem,k_,lb]
   refine dn.c ?_;refine ak.bm [] k2 (bL _ _ _) ⟨by rw[<-e1];exact bC _,by rw[<-e3];exact bC _,trivial,trivial⟩ ?_;rw[eW];simp only[ite_self];refine aC.g ?_;cases o2<;>simp only[go_sem,k_,lb,fw,iW,aF,q1,q2,h0,h1,h2]
  |true =>
   simp only[go_sem,k_,lb,fw,iW,aF,q1];refine⟨of_eq_true (E1 []),?_⟩;refine ak.tree (args':=[.ps 2 [.agg [.int .i64 a.l.head,.ps 2 (a.l.args.map Tm.aH)],.agg [.int .i64 a.r.head,.ps 2 (a.r.args.map Tm.aH)]],.ps 2 [.agg [.int .i64 b.r.head,.ps 2 (b.r.args.map Tm.aH)],.agg [.int .i64 b.l.head,.ps 2 (b.l.args.map Tm.aH)]],.a8]) [6,7] ?_ ?_
   ·simp only[go_sem,k_,lb]
   refine dn.c ?_;refine ak.bm [] k2 (bL _ _ _) ⟨by rw[<-e1];exact bC _,by rw[<-e3];exact bC _,trivial,trivial⟩ ?_;rw[eW];simp only[ite_self];refine aC.g ?_;cases o2<;>simp only[go_sem,k_,lb,fw,iW,aF,q1,q2,h0,h1,h2]
 | cons v t =>
  have ho:=of_eq_true (E1 s);have qS:=q_ s;rw[lJ]at ho qS;have hle:t.length+1<=1000000000:=by rw[aq]at qS;omega
  obtain⟨z1,rY⟩:∃z,wK [a.l,a.r] [b.l,b.r] s=z:=⟨_,rfl⟩;obtain⟨z2,rE⟩:∃z,wK [a.l,a.r] [b.r,b.l] s=z:=⟨_,rfl⟩;rw[rY,rE];obtain⟨m1,o1⟩:=z1;obtain⟨m2,o2⟩:=z2;have q1:=L9 m1;have q2:=L9 m2;simp only[go_sem,hk,lJ,ho,aq,hle];refine ak.tree (args':=[.ps 2 ([a.l,a.r].map Tm.aH),.ps 2 ([b.l,b.r].map Tm.aH),eR 2 3 (dp s)]) [3,4] ?_ ?_
  ·rw[e1,e2,lJ];simp only[go_sem,k_,lb,Cy,aq]
  refine dn.c (MU 2 [a.l,a.r] [b.l,b.r] s _ rfl JN hpB oA hs eM (by rw[lJ];rfl) ?_);rw[rY];refine aC.g ?_;cases o1 with
  |false =>
   simp only[go_sem,k_,lb,fw,iW,lJ,ho,aq,hle,q1,cu,cw];refine ak.tree (args':=[.ps 2 ([a.l,a.r].map Tm.aH),.ps 2 ([b.r,b.l].map Tm.aH),eR 5 3 (dp s)]) [6,7] ?_ ?_
   ·rw[e1,e3,lJ];simp only[go_sem,k_,lb,Cy,aq]
   refine dn.c (MU 5 [a.l,a.r] [b.r,b.l] s _ rfl JN FQ oA hs eM (by rw[lJ];rfl) ?_);rw[rE];refine aC.g ?_;cases o2<;>simp only[go_sem,k_,lb,fw,iW,aF,q1,q2,cu,cw,h0,h1,h2]
  |true =>
   simp only[go_sem,k_,lb,fw,iW,lJ,ho,aq,hle,q1,cu,cw];refine ak.tree (args':=[.ps 2 ([a.l,a.r].map Tm.aH),.ps 2 ([b.r,b.l].map Tm.aH),eR 7 3 (dp s)]) [8,9] ?_ ?_
   ·rw[e1,e3,lJ];simp only[go_sem,k_,lb,Cy,aq]
   refine dn.c (MU 7 [a.l,a.r] [b.r,b.l] s _ rfl JN FQ oA hs eM (by rw[lJ];rfl) ?_);rw[rE];refine aC.g ?_;cases o2<;>simp only[go_sem,k_,lb,fw,iW,aF,q1,q2,cu,cw,h0,h1,h2]
theorem SM {a b:Li} {s m:List Bd} (hb:HD b) (eM:∀z∈s,z.t.size<1000000) (h:m∈jE a b s):m.length<=s.length+Tm.bw [a.l,a.r]/\∀z∈m,z.t.size<1000000:=by
 have key:∀x y:Tm,x.size<=400->y.size<=400->m∈yt [a.l,a.r] [x,y] s->m.length<=s.length+Tm.bw [a.l,a.r]/\∀z∈m,z.t.size<1000000:=λx y hx hy h=>by
  unfold yt at h;split at h
  ·rw[aK.1 h];refine⟨K0 _ _ _,K6 (P:=λt=>t.size<1000000) KM _ _ _ (λu hu=>?_) eM⟩;simp only[aU,dU,or_false]at hu;rcases hu with rfl|rfl<;>omega
  ·cases h
 unfold jE at h;split at h
 ·cases h
 rcases a_.1 h with h|h
 ·exact key _ _ hb.1.2 hb.2.2 h
 ·exact key _ _ hb.2.2 hb.1.2 h
theorem Yuq (u:List Bool)(n m:Nat)(h:n<u.length)(hm:u.length=m):(u.take n++List.replicate (m-n) false).set n u[n]=u.take (n+1)++List.replicate (m-(n+1)) false:=by
 subst hm;rw[List.set_append_right _ _ (by rw[bN];omega),bN,ly (by omega),dF,show u.length-n=u.length-(n+1)+1 by omega,eS,cw,cx,ax h,dx,cg];rfl
def uO (u:List Bool)(m n:Nat):List Bool:=u.take n++List.replicate (m-n) false
theorem Yxr (u:List Bool)(m:Nat):eB (uO u m 0)=List.replicate m (.bool false):=by unfold uO;rw[jh,aY,gU,HW]
theorem Yns {u:List Bool}{m n:Nat}(hu:u.length=m)(h:n<=m):(uO u m n).length=m:=by unfold uO;rw[aA,bN,bJ];omega
theorem Ymi {u:List Bool}{m:Nat}(hu:u.length=m):uO u m m=u:=by unfold uO;subst hu;rw[bQ,dF,List.replicate_zero,bf]
theorem Xt (a b:Li)(s:List Bd):(jE a b s).length<=2:=by
 have h:∀p t,(yt p t s).length<=1:=λp t=>by unfold yt;split<;>simp
 unfold jE;split
 ·simp
 ·rw[aA];have:=h [a.l,a.r] [b.l,b.r];have:=h [a.l,a.r] [b.r,b.l];omega
theorem DY (us:List Bool)(k n:Nat)(hk:k<us.length)(hn:n<us.length):(us.set k true)[n]'(by simpa using hn)=(us.getD n false||decide ((n:Int)=(k:Int))):=by
 rw[List.getElem_set];by_cases e:k=n
 ·subst e;simp
 ·rw[if_neg e,show decide ((n:Int)=(k:Int))=false by simp;omega];simp[List.getD,hn]
set_option maxHeartbeats 4000000 in
theorem Oz (d:List Li) (hd:∀l∈d,HD l) (xG:d.length<1000000):∀(c:List Li) (us:List Bool) (s:List Bd),us.length=d.length->(∀a∈c,HD a)->c.length<1000000->s.length+Tm.bw (cH c)<100000->(∀z∈s,z.t.size<1000000) ->
  az Tryz.prog 124 [.ps 5 (lits c),.ps 5 (lits d),.ps 1 (eB us),.ps 3 (dp s)] (.bool (iA d c us s))
 |[],us,s,hu,hc,gM,hs,eM=>by
  refine az.begin (rs:=[.tmp 8]) (m:=80) 1000 Tryz.func124 rfl rfl rfl (by decide) trivial ?_;simp only[go_sem,dA,aF];rw[iA]
 | a :: c,us,s,hu,hc,gM,hs,eM=>by
  refine az.begin (rs:=[.tmp 8]) (m:=80) 1000 Tryz.func124 rfl rfl rfl (by decide) trivial ?_;have dL:¬((c.length+1:Nat):Int)=0:=by omega
  obtain⟨W,hW⟩:∃W,iA d (a :: c) us s=W:=⟨_,rfl⟩;rw[hW];rw[iA]at hW;obtain⟨f,hf⟩:∃f:Nat->Bool,(λk=>!us.getD k false&&decide ((d.getD k iu).neg=a.neg)&&(jE a (d.getD k iu) s).any λm=>iA d c (us.set k true) m)=f:=⟨_,rfl⟩;rw[hf]at hW;have QS:=hc a (by simp);have MI:Tm.bw (cH (a :: c))=Tm.bw [a.l,a.r]+Tm.bw (cH c):=by
   rw[show cH (a :: c)=a.l :: a.r :: cH c from rfl];simp only[Tm.bw];omega
  have hIH:=λ(us:List Bool) (s:List Bd) hu hs eM=>Oz d hd xG c us s hu (λx hx=>hc x (by simp[hx])) (by simp only[aq]at gM;omega) hs eM;have u0:List.drop 1 (lits (a :: c))=lits c:=rfl;have g3:(lits (a :: c)).getD 0 .undef=a.aH:=rfl;simp only[go_sem,dA,aq,dL];refine aC.cA (ι:={k:Nat // k<=d.length/\((List.range d.length).drop k).any f=W}) 1000
   (λq=>dV 84 [(0,.ps 5 (lits (a :: c))),(1,.ps 5 (lits d)),(2,.ps 1 (eB us)),(3,.ps 3 (dp s)),(8,.bool false),(9,.int .i64 q.1)])
   (λ_=>[]) (λq=>d.length-q.1) ⟨0,aj _,by simpa using hW⟩ ?_ (λ_=>aj _) ?_
  ·simp only[go_sem,jA,bI]
  ·rintro ⟨k,hk,aD⟩;by_cases bx:(k:Int)<d.length
   case neg =>
    have dm:k=d.length:=by omega
    subst dm;rw[gS (by simp),fD]at aD;subst aD;simp only[go_sem,bx,dA];refine aC.g ?_;simp only[go_sem]
   have aL:k<d.length:=by omega
   have hw:=W1' k (by omega)
   have g1:=qs aL;have g2:=yT (l:=us) (i:=k) (by omega);have gd:d.getD k iu=d[k]:=by simp[List.getD,aL]
   have gu:us.getD k false=us[k]'(by omega):=by simp[List.getD,show k<us.length by omega]
   have C7:=hd _ (ay aL);rw[ai (by simpa using aL),dI,im]at aD;have kV:f k=(!us.getD k false&&decide (d[k].neg=a.neg)&&(jE a d[k] s).any λm=>iA d c (us.set k true) m):=by rw[<-hf];simp only[gd]
   have zP:=YW a d[k] s QS C7 (by omega) eM;have My:=λm (h:m∈jE a d[k] s)=>SM C7 eM h;generalize d[k]=l at *
   have uI:(k:Int)<us.length:=by omega
   have zl:f k=false->(List.drop (k+1) (List.range d.length)).any f=W:=λh=>by rw[h,cD]at aD;exact aD
   simp only[go_sem,bx,dA];refine aC.draw [] 0 0 mixed rfl rfl (by decide) ?_;cases qU:us.getD k false with
   |true =>
    rw[qU]at g2 kV;simp only[go_sem,cM,g1,g2,sN,hu,g3,gf,bx]
    (repeat((with_reducible refine And.intro ?_ ?_);·omega))
    refine aC.g ?_;simp only[go_sem];refine⟨⟨k+1,by omega,zl (by rw[kV];simp)⟩,?_,by simp only;omega⟩;simp only[go_sem,jA,bI,hw]
   | false =>
    rw[qU]at g2 kV;cases dP:(l.neg==a.neg) with
    |false =>
     have rW:decide (l.neg=a.neg)=false:=by simpa using dP
     simp only[go_sem,cM,g1,g2,sN,hu,g3,gf,bx,dP,dA,aq]
     (repeat((with_reducible refine And.intro ?_ ?_);·omega))
     refine aC.g ?_;simp only[go_sem];refine⟨⟨k+1,by omega,zl (by rw[kV,rW];simp)⟩,?_,by simp only;omega⟩;simp only[go_sem,jA,bI,hw]
    | true =>
     have rW:decide (l.neg=a.neg)=true:=by simpa using dP
     rw[rW]at kV;simp only[l6,bO]at kV;simp only[go_sem,cM,g1,g2,sN,hu,g3,gf,bx,dP,dA,aq]
     (repeat((with_reducible refine And.intro ?_ ?_);·omega))
     refine aC.g ?_;simp only[go_sem];refine aC.draw [] 0 0 mixed rfl rfl (by decide) ?_;simp only[go_sem,cM,g1,g3,gf,bx,dA,aq]
     (repeat((with_reducible refine And.intro ?_ ?_);·omega))
     refine jS zP (bL _ _ _) ⟨jU _,jU _,of_eq_true (nq _),trivial⟩ ?_;simp only[go_sem];refine aC.g ?_;simp only[go_sem];have Z1:=Xt a l s;generalize jE a l s=L at *
     obtain⟨u,xP⟩:∃u,us.set k true=u:=⟨_,rfl⟩;rw[xP]at kV;have Bb:u.length=d.length:=by rw[<-xP,bg];exact hu
     refine aC.cA (ι:={j:Nat // j<=L.length/\(L.drop j).any (λm=>iA d c u m)=f k}) 1000
      (λq=>dV 84 [(0,.ps 5 (lits (a :: c))),(1,.ps 5 (lits d)),(2,.ps 1 (eB us)),(3,.ps 3 (dp s)),(8,.bool false),(9,.int .i64 k),(10,.ps 1 (sA L)),(11,.int .i64 q.1)])
      (λ_=>[]) (λq=>L.length-q.1) ⟨0,aj _,by simpa using kV.symm⟩ ?_ (λ_=>aj _) ?_
     ·simp only[go_sem,jA,bI,CD]
     ·rintro ⟨j,hj,sH⟩;by_cases sC:(j:Int)<L.length
      case neg =>
       have qh:j=L.length:=by omega
       subst qh;rw[aJ,fD]at sH;simp only[go_sem,sC,H3];refine aC.g ?_;simp only[go_sem,hw];refine⟨⟨k+1,by omega,zl sH.symm⟩,?_,by simp only;omega⟩;simp only[go_sem,jA,bI,hw]
      have nO:j<L.length:=by omega
      have xQ:=W1' j (by omega)
      have gj:=Tg nO;rw[ai nO,dI]at sH;have hm:=My _ (ay nO);have hI:=hIH u L[j] Bb (by have:=hm.1;omega) hm.2;generalize L[j]=m at *
      simp only[go_sem,sC,H3,dA];refine⟨by omega,?_⟩;refine aC.cA (ι:={n:Nat // n<=d.length}) 1000
       (λq=>dV 84 [(0,.ps 5 (lits (a :: c))),(1,.ps 5 (lits d)),(2,.ps 1 (eB us)),(3,.ps 3 (dp s)),(8,.bool false),(9,.int .i64 k),(10,.ps 1 (sA L)),(11,.int .i64 j),(12,.os 0 0 d.length 1),(13,.int .i64 q.1)])
       (λq=>[some (.row (eB (uO u d.length q.1)) 0)]) (λq=>d.length-q.1) ⟨0,aj _⟩ ?_ (λ_=>by simp) ?_
      ·simp only[go_sem,jA,bI,CD,Yxr];rw[HW];exact jA _
      ·rintro ⟨n,hn⟩;by_cases vJ:(n:Int)<d.length
       ·have zj:n<d.length:=by omega
        have R9:=W1' n (by omega)
        have gn:=yT (l:=us) (i:=n) (by omega);have gE:=Yuq u n d.length (by omega) Bb;have Df:=DY us k n (by omega) (by omega);have yA:u[n]'(by omega)=(us.getD n false||decide ((n:Int)=(k:Int))):=by rw[<-Df];simp only[xP]
        rw[yA]at gE;have FU:=Yns (n:=n) Bb hn;have fS:∀b:Bool,(us.getD n false||decide ((n:Int)=(k:Int)))=b->(eB (uO u d.length n)).set n (.bool b)=eB (uO u d.length (n+1)):=λb hb=>by rw[Gw,<-hb];exact congrArg eB gE
        have gR:=yT (l:=uO u d.length n) (i:=n) (by omega);cases hb:us.getD n false with
        |true =>
         rw[hb]at gn fS;have fS:=fS true rfl;simp only[go_sem,vJ,dA,sN,hu,gn,FU,gR,fS];refine⟨by omega,by omega,⟨by omega,zj⟩,⟨n+1,zj⟩,⟨by rw[R9],rfl,⟨bI _,bI _,jA _,CD _⟩,jA _⟩,by simp only;omega⟩
        | false =>
         rw[hb]at gn fS;by_cases JI:n=k
         ·subst JI;have fS:=fS true (by simp);simp only[go_sem,vJ,dA,sN,hu,gn,FU,gR,fS];refine⟨by omega,by omega,⟨by omega,zj⟩,⟨n+1,zj⟩,⟨by rw[R9],rfl,⟨bI _,bI _,jA _,CD _⟩,jA _⟩,by simp only;omega⟩
         ·have JJ:¬(n:Int)=(k:Int):=by omega
          have fS:=fS false (by rw[decide_eq_false JJ];rfl);simp only[go_sem,vJ,dA,sN,hu,gn,FU,gR,fS,JJ];refine⟨by omega,by omega,⟨by omega,zj⟩,⟨n+1,zj⟩,⟨by rw[R9],rfl,⟨bI _,bI _,jA _,CD _⟩,jA _⟩,by simp only;omega⟩
       ·have MA:n=d.length:=by omega
        subst MA;have RV:=Ymi Bb;simp only[RV];simp only[go_sem,vJ,dA];refine aC.g ?_;simp only[go_sem];refine aC.draw [] 1 1 mixed rfl rfl (by decide) ?_;simp only[go_sem,cM,dA,aq,u0,gj,H3,sC];have oB:List.take (c.length+1-1) (lits c)=lits c:=aO (by rw[dA];omega)
        try rw[oB]
        (repeat((with_reducible refine And.intro ?_ ?_);·omega))
        refine Ad [0] hI ?_ ⟨bI _,bI _,jA _,of_eq_true (nq _),trivial⟩ ?_ ?_
        ·simp only[go_sem,k_,lb,sN,Bb];rw[aO (by rw[sN];omega)];exact bL _ _ _
        ·simp[bj,bA,bz,fG]
        simp only[bj,bA,bz,if_true];simp only[go_sem];refine aC.g ?_;cases hv:iA d c u m with
        |true =>
         rw[hv,dE]at sH;rw[<-sH,dE]at aD;subst aD;simp only[go_sem];refine aC.g ?_;simp only[go_sem];refine aC.g ?_;simp only[go_sem]
        |false =>
         rw[hv,cD]at sH;simp only[go_sem,xQ];refine⟨⟨j+1,by omega,sH⟩,?_,by simp only;omega⟩;simp only[go_sem,xQ,jA,bI,CD]
end Go.Proofs
namespace Go.dq
open Go
theorem aC.Bx {P:Program}{lo:Ctx}{Q:cB->St->Prop}{tm:List ah}{σ:av}{c:Code}{k:List KI}(bs:List Nat)(i:Nat)(t:ah)(hi:i<tm.length)(hp:pT (among bs) σ t (tm.getD i .undef))(he:aC P lo Q (.code c :: k) .normal ⟨tm.set i t,fw (among bs) 0 σ⟩):aC P lo Q (.code c :: k) .normal ⟨tm,σ⟩:=by
 simp only[aC]at he ⊢;intro X base mb D β a w b k cs h1 h2 h3 h4;obtain⟨e1,lp,fI,a1,w1,q,g1,g2,g3,g4⟩:=he X base mb D β a w b k cs (by simpa[H9] using h1) h2 (Zd bs i t hi hp h3) h4;exact⟨e1,lp,fI,a1,w1,q,g1,g2,YN bs g3,g4⟩
end Go.dq
namespace Go.Proofs
open Go Go.dq
def rh:Option Nat->Int×Bool×Int
 |some k=>((k:Int),true,0)
 |none=>(0,false,0)
theorem Hb {g:List Sy}{d:List Li}(hd:iC g d):∀l∈d,HD l:=λl hl=>by
 obtain⟨a1,a2⟩:=sQ hd hl;have b1:=qZ (n_ a1.1).1;have b2:=qZ (n_ a2.1).1;exact⟨⟨b1.2.2,b1.1⟩,b2.2.2,b2.1⟩
theorem V6 {g:List Sy} {c d:List Li} (hc:iC g c) (hd:iC g d):az Tryz.prog 122 [.ps 5 (lits c),.ps 5 (lits d)] (.int .i64 0):=by
 refine az.begin (rs:=[.tmp 4]) (m:=21) 1000 Tryz.func122 rfl rfl rfl (by decide) trivial ?_;have key:∀ {d:List Li},iC g d->¬((32:Int)<(d.length:Int))/\az Tryz.prog 57 [.ps 5 (lits d)] (.ps 2 ((cH d).map Tm.aH))/\az Tryz.prog 116 [.ps 2 ((cH d).map Tm.aH)] (.bool true):=fun {d} hd=>by
  obtain⟨hf,hs,hl⟩:=EN hd;have hA:=LI (cH d) (λt ht=>by have:=sO ht;omega) (by rw[EM];omega);rw[Xq hd]at hA;exact⟨by omega,HV d (by omega),hA⟩
 obtain⟨c1,c2,c3⟩:=key hc;obtain⟨d1,d2,d3⟩:=key hd;generalize cH c=ts at *
 generalize cH d=us at *
 simp only[go_sem,dA,c1,d1];refine ak.bm [] (c2) (bL _ _ _) (by simp[go_sem,bI]) ?_;rw[eW];simp only[ite_self];refine aC.g ?_;simp only[go_sem];refine ak.bm [] (c3) (bL _ _ _) (by simp[go_sem,bC]) ?_;simp only[bj,bA,bz,if_true];refine aC.g ?_;simp only[go_sem];refine ak.bm [] (d2) (bL _ _ _) (by simp[go_sem,bI]) ?_;rw[eW];simp only[ite_self];refine aC.g ?_;simp only[go_sem];refine ak.bm [] (d3) (bL _ _ _) (by simp[go_sem,bC]) ?_;simp only[bj,bA,bz,if_true];refine aC.g ?_;simp only[go_sem]
theorem Ynw {g:List Sy}{c d:List Li}(hc:iC g c)(hd:iC g d):az Tryz.prog 83 [.ps 5 (lits c),.ps 5 (lits d)] (.dw [.bool (pM c d),.int .i64 0]):=by
 refine az.begin (rs:=[.tmp 4,.tmp 5]) (m:=17) 1000 Tryz.func83 rfl rfl rfl (by decide) ⟨trivial,trivial,trivial⟩ ?_;have hW:=V6 hc hd;obtain⟨hf,hs,hl⟩:=EN hc;obtain⟨p9,zW,xk⟩:=EN hd;have hM:=Oz d (Hb hd) (by omega) c (ff d) [] (by simp[ff]) (Hb hc) (by omega) (by simp only[aF];omega) (λz hz=>by cases hz);rw[show iA d c (ff d) []=pM c d from Ymg c d,show dp []=[] from rfl]at hM
 have vJ:(ff d).length=d.length:=by simp[ff]
 generalize pM c d=y at *
 simp only[go_sem];refine ak.bm [] (hW) (bL _ _ _) (by simp[go_sem,bI]) ?_;simp only[bj,bA,bz,if_true];refine aC.g ?_;simp only[go_sem,dA,KH];refine⟨by omega,?_⟩;refine ak.bm [0] hM ?_ (by simp[go_sem,bI,jA]) ?_
 ·simp only[go_sem,k_,lb,sN,vJ];rw[aO (by rw[sN,vJ];exact ae _)];exact bL _ _ _
 simp only[bj,bA,bz,if_true];refine aC.g ?_;simp only[go_sem]
set_option maxHeartbeats 1000000 in
theorem Yg5 {g:List Sy} {c d:List Li} (hc:iC g c) (hd:iC g d) (i k:Nat) (hi:i<c.length) (hk:k<d.length):az Tryz.prog 123 [.ps 5 (lits c),.ps 5 (lits d),.int .i64 i,.int .i64 k] (.bool (nM c d i k)):=by
 refine az.begin (rs:=[.tmp 8]) (m:=60) 1000 Tryz.func123 rfl rfl rfl (by decide) trivial ?_;obtain⟨hf,hs,hl⟩:=EN hc;obtain⟨p9,zW,xk⟩:=EN hd;have gc:c.getD i iu=c[i]:=by simp[List.getD,hi]
 have gd:d.getD k iu=d[k]:=by simp[List.getD,hk]
 unfold nM;rw[gc,gd];have gi:=qs hi;have gk:=qs hk;have xF:=Hb hc _ (ay hi);have C7:=Hb hd _ (ay hk);have zP:=YW c[i] d[k] [] xF C7 (by simp) (λz hz=>by cases hz);rw[show dp []=[] from rfl]at zP
 have My:=λm (h:m∈jE c[i] d[k] [])=>SM (s:=[]) C7 (λz hz=>by cases hz) h;generalize c[i]=a at *
 generalize d[k]=l at *
 have rV:(i:Int)<c.length:=by omega
 have ov:(k:Int)<d.length:=by omega
 simp only[go_sem];refine aC.draw [] 0 0 mixed rfl rfl (by decide) ?_;cases dP:(a.neg==l.neg) with
 |true =>
  have rW:a.neg=l.neg:=by simpa using dP
  rw[show decide (a.neg≠l.neg)=false by simp[rW],bU];simp only[go_sem,cM,dA,gi,gk,rV,ov,gf,dP]
  (repeat((with_reducible refine And.intro ?_ ?_);·omega))
  refine aC.g ?_;simp only[go_sem]
 |false =>
 have rW:¬a.neg=l.neg:=by simpa using dP
 rw[show decide (a.neg≠l.neg)=true by simp[rW],bO];simp only[go_sem,cM,dA,gi,gk,rV,ov,gf,dP]
 (repeat((with_reducible refine And.intro ?_ ?_);·omega))
 have hw:=W1' i (by omega)
 have ht:List.take i (lits c)=lits (c.take i):=by unfold lits;rw[m_]
 have l1:(lits (c.take i)).length=i:=by rw[dA,bN];omega
 have l2:(lits (c.drop (i+1))).length=c.length-(i+1):=by rw[dA,cr]
 have o1:=of_eq_true (CJ (c.take i));have o2:=of_eq_true (CJ (c.drop (i+1)));have he:lits (c.eraseIdx i)=lits (c.take i)++lits (c.drop (i+1)):=by rw[i_];simp[lits]
 have xj:List.take (c.length-(i+1)) (List.drop (i+1) (lits c))=lits (c.drop (i+1)):=by rw[show List.drop (i+1) (lits c)=lits (c.drop (i+1)) by unfold lits;rw[List.map_drop],aO (by rw[l2];exact ae _)]
 have tB:List.take i (lits (c.take i))=lits (c.take i):=aO (by rw[l1];exact ae _);have hle:i<=1000000000:=by omega
 have zh:c.length-(i+1)<=1000000000:=by omega
 have Jx:i+(c.length-(i+1))<=1000000000:=by omega
 refine aC.g ?_;have Z1:=Xt a l [];have A8:Tm.bw [a.l,a.r]<=800:=by simp only[Tm.bw];have:=xF.1.2;have:=xF.2.2;omega
 generalize jE a l []=L at *
 have hU:((ff d).set k true).length=d.length:=by simp[ff]
 have Jb:=Zq i hc;obtain⟨_,hsr,hlr⟩:=EN Jb;have Z2:=λ(m:List Bd) (h:m∈L)=>Oz d (Hb hd) (by omega) (c.eraseIdx i) ((ff d).set k true) m hU (Hb Jb) (by omega) (by have:=(My m h).1;simp only[aF]at this;omega) (My m h).2;have zR:(eB (ff d)).set k (.bool true)=eB ((ff d).set k true):=Gw _ _ _;have vJ:(ff d).length=d.length:=by simp[ff]
 have gn:=yT (l:=ff d) (i:=k) (by omega);generalize (ff d).set k true=U at *
 obtain⟨G,hG⟩:∃G:List Bd->Bool,(λm=>iA d (c.eraseIdx i) U m)=G:=⟨_,rfl⟩;have hGm:∀m,iA d (c.eraseIdx i) U m=G m:=λm=>by rw[<-hG]
 rw[hG];simp only[hGm]at Z2;obtain⟨Z,hZ⟩:∃Z,L.any G=Z:=⟨_,rfl⟩;rw[hZ];have I9:(i=0/\c.length-(i+1)=0)\/(i=0/\¬c.length-(i+1)=0)\/¬i=0:=by omega
 rcases I9 with⟨k0,c1⟩|⟨k0,c1⟩|k0
 case' inl =>
  have hz:lits (c.take i)=[]:=dT.1 (by rw[l1];exact k0);have hn:lits (c.drop (i+1))=[]:=dT.1 (by rw[l2];exact c1);rw[hz]at ht o1;rw[hn]at xj o2;rw[hz,hn,aY]at he;simp only[go_sem,dA,hw,ht,o1,aF,xj,o2];refine⟨⟨by omega,by omega⟩,⟨by omega,by omega⟩,?_⟩;refine aC.Bx [] 9 (.ps 5 (lits (c.eraseIdx i))) (by simp) (by rw[he];simp only[go_sem,bE,aV]) ?_;refine aC.EB (E4 (T:=(dV 64 [(0,.ps 5 (lits c)),(1,.ps 5 (lits d)),(2,.int .i64 i),(3,.int .i64 k),(8,.bool false),(9,.ps 5 (lits (c.eraseIdx i)))])) (σ1:=[]) ?_) (aj _) ?_
  ·simp only[go_sem,cu,cw,bI]
 case' inr.inl =>
  have hz:lits (c.take i)=[]:=dT.1 (by rw[l1];exact k0);rw[hz]at ht o1;rw[hz,aY]at he;simp only[go_sem,dA,hw,ht,o1,aF,xj,o2,l2,c1,zh];refine⟨⟨by omega,by omega⟩,⟨by omega,by omega⟩,?_⟩;refine aC.Bx [0] 9 (.ps 5 (lits (c.eraseIdx i))) (by simp) ?_ ?_
  ·rw[he];simp only[go_sem,bE,aV,k_,lb,l2];rw[aO (by rw[l2];exact ae _)];exact bL _ _ _
  refine aC.EB (E4 (T:=(dV 64 [(0,.ps 5 (lits c)),(1,.ps 5 (lits d)),(2,.int .i64 i),(3,.int .i64 k),(8,.bool false),(9,.ps 5 (lits (c.eraseIdx i)))])) (σ1:=[]) ?_) (aj _) ?_
  ·simp only[go_sem,cu,cw,bI]
 case' inr.inr =>
  simp only[go_sem,dA,hw,ht,o1,l1,k0,hle,xj,o2,l2,tB,aA,Jx];refine⟨⟨by omega,by omega⟩,⟨by omega,by omega⟩,by omega,?_⟩;refine aC.Bx [1] 9 (.ps 5 (lits (c.eraseIdx i))) (by simp) ?_ ?_
  ·rw[he];simp only[go_sem,bE,aV,k_,lb,l1,l2,aA];rw[aO (l:=lits (c.take i)++lits (c.drop (i+1))) (by rw[aA,l1,l2];exact ae _)];exact bL _ _ _
  refine aC.EB (E4 (T:=(dV 64 [(0,.ps 5 (lits c)),(1,.ps 5 (lits d)),(2,.int .i64 i),(3,.int .i64 k),(8,.bool false),(9,.ps 5 (lits (c.eraseIdx i)))])) (σ1:=[]) ?_) (aj _) ?_
  ·simp only[go_sem,cu,cw,bI]
 all_goals
  refine aC.g ?_;simp only[go_sem];refine aC.draw [] 0 0 mixed rfl rfl (by decide) ?_;simp only[go_sem,cM,dA,gi,gk,rV,ov,gf]
  (repeat((with_reducible refine And.intro ?_ ?_);·omega))
  refine jS zP (by simp only[go_sem];exact⟨nH _ _ a.aH,nH _ _ l.aH⟩) (by simp[go_sem,jU]) ?_;simp only[go_sem];refine aC.g ?_;simp only[go_sem];refine aC.cA (ι:={j:Nat // j<=L.length/\(L.drop j).any G=Z}) 1000 (λq=>dV 64 [(1,.ps 5 (lits d)),(3,.int .i64 k),(8,.bool false),(9,.ps 5 (lits (c.eraseIdx i))),(10,.ps 1 (sA L)),(11,.int .i64 q.1)])
   (λ_=>[]) (λq=>L.length-q.1) ⟨0,aj _,by simpa using hZ⟩ ?_ (λ_=>aj _) ?_
  ·simp only[go_sem,bI,CD]
  ·rintro⟨j,hj,sH⟩;by_cases sC:(j:Int)<L.length
   case neg =>
    have qh:j=L.length:=by omega
    subst qh;rw[aJ,fD]at sH;subst sH;simp only[go_sem,sC,H3];refine aC.g ?_;simp only[go_sem]
   have nO:j<L.length:=by omega
   have xQ:=W1' j (by omega)
   have gj:=Tg nO;rw[ai nO,dI]at sH;have hm:=Z2 _ (ay nO);generalize L[j]=m at *
   simp only[go_sem,sC,H3,dA,KH,sN,vJ,ov,gn,zR,gj];refine⟨⟨by omega,by omega,by omega⟩,by omega,⟨by omega,hk⟩,by omega,?_⟩;refine ak.bm [0] hm ?_ ⟨bI _,bI _,jA _,of_eq_true (nq _),trivial⟩ ?_
   ·simp only[go_sem,k_,lb,sN,hU];rw[aO (by rw[sN,hU];exact ae _)];exact bL _ _ _
   simp only[bj,bA,bz,if_true];refine aC.g ?_;cases hv:G m with
   |true =>
    rw[hv,dE]at sH;subst sH;simp only[go_sem];refine aC.g ?_;simp only[go_sem]
   |false =>
    rw[hv,cD]at sH;simp only[go_sem,xQ];refine⟨⟨j+1,by omega,sH⟩,?_,by simp only;omega⟩;simp only[go_sem,xQ,bI,CD]
theorem Yv9 {g:List Sy} {c d:List Li} (hc:iC g c) (hd:iC g d):az Tryz.prog 81 [.ps 5 (lits c),.ps 5 (lits d)] (.dw [.int .i64 (lQ c d).1,.bool (lQ c d).2.1,.int .i64 0]):=by
 refine az.begin (rs:=[.tmp 4,.tmp 5,.tmp 6]) (m:=32) 1000 Tryz.func81 rfl rfl rfl (by decide) ⟨trivial,trivial,trivial,trivial⟩ ?_;have hW:=V6 hc hd;have hl:=(uy hc.1).2.1;have xk:=(uy hd.1).2.1;obtain⟨Y,hY⟩:∃Y,yr c d=Y:=⟨_,rfl⟩;have hF:lQ c d=rh Y:=by
  unfold lQ;rw[if_neg (by simp[Ov hc hd]),<-Ynn,hY];cases Y<;>rfl
 rw[hF];unfold yr at hY;obtain⟨p,hp⟩:∃p:Nat->Bool,(λk=>(List.range c.length).any λi=>nM c d i k)=p:=⟨_,rfl⟩;rw[hp]at hY;simp only[go_sem];refine ak.bm [] (hW) (bL _ _ _) (by simp[go_sem,bI]) ?_;simp only[bj,bA,bz,if_true];refine aC.g ?_;simp only[go_sem];refine aC.cA (ι:={k:Nat // k<=d.length/\((List.range d.length).drop k).find? p=Y}) 1000
  (λq=>dV 34 [(0,.ps 5 (lits c)),(1,.ps 5 (lits d)),(4,.int .i64 0),(5,.bool false),(6,.int .i64 0),(8,.int .i64 q.1)])
  (λ_=>[]) (λq=>d.length-q.1) ⟨0,aj _,by simpa using hY⟩ ?_ (λ_=>aj _) ?_
 ·simp only[go_sem,bI]
 ·rintro ⟨k,hk,aD⟩;by_cases bx:(k:Int)<d.length
  case neg =>
   have dm:k=d.length:=by omega
   subst dm;rw[gS (by simp),ta]at aD;subst aD;simp only[go_sem,bx,dA,rh];refine aC.g ?_;simp only[go_sem,rh]
  have aL:k<d.length:=by omega
  have hw:=W1' k (by omega)
  rw[ai (by simpa using aL),iN,im]at aD;have nR:p k=(List.range c.length).any λi=>nM c d i k:=by rw[<-hp]
  obtain⟨F,ZW⟩:∃F:Nat->Bool,(λi=>nM c d i k)=F:=⟨_,rfl⟩;rw[ZW]at nR;simp only[go_sem,bx,dA];refine aC.cA (ι:={i:Nat // i<=c.length/\((List.range c.length).drop i).any F=p k}) 1000
   (λq=>dV 34 [(0,.ps 5 (lits c)),(1,.ps 5 (lits d)),(4,.int .i64 0),(5,.bool false),(6,.int .i64 0),(8,.int .i64 k),(9,.int .i64 q.1)])
   (λ_=>[]) (λq=>c.length-q.1) ⟨0,aj _,by simpa using nR.symm⟩ ?_ (λ_=>aj _) ?_
  ·simp only[go_sem,bI]
  ·rintro⟨i,hi,iT⟩;by_cases rV:(i:Int)<c.length
   case neg =>
    have dm:i=c.length:=by omega
    subst dm;rw[gS (by simp),fD]at iT;rw[<-iT]at aD;simp only[go_sem,rV,dA];refine aC.g ?_;simp only[go_sem,hw];refine⟨⟨k+1,by omega,aD⟩,?_,by simp only;omega⟩;simp only[go_sem,bI]
   have uG:i<c.length:=by omega
   have Hy:=W1' i (by omega)
   rw[ai (by simpa using uG),dI,im]at iT;have hFi:F i=nM c d i k:=by rw[<-ZW]
   have hC:=Yg5 hc hd i k uG aL;rw[<-hFi]at hC;simp only[go_sem,rV,dA];refine ak.bm [] hC (bL _ _ _) (by simp[go_sem,bI]) ?_;simp only[bj,bA,bz,if_true];refine aC.g ?_;cases hv:F i with
   |true =>
    rw[hv,dE]at iT;rw[<-iT]at aD;subst aD;simp only[go_sem,rh];refine aC.g ?_;simp only[go_sem,rh];refine aC.g ?_;simp only[go_sem,rh]
   |false =>
    rw[hv,cD]at iT;simp only[go_sem,Hy];refine⟨⟨i+1,by omega,iT⟩,?_,by simp only;omega⟩;simp only[go_sem,bI]
def tn (d:List Li):Option (Nat×Nat)->List Li×Int
 |some x=>(d.eraseIdx x.2,(x.1:Int))
 |none=>(d, -1)
def qe:Option Nat->Int
 |some k=>(k:Int)
 |none=>-1
def Al (es:List (List Li))(d:List Li):List Li×Int:=tn d (mz 0 es d)
def yK (es:List (List Li))(d:List Li):Int:=qe (ky 0 es d)
theorem Yte {g:List Sy}{c d:List Li}(hc:iC g c)(hd:iC g d):(lQ c d).2.2=0:=by
 unfold lQ;rw[if_neg (by simp[Ov hc hd])];split<;>rfl
theorem Yup {g:List Sy} {es:List (List Li)} {d:List Li} (kp:∀x∈es,iC g x) (hd:iC g d) (hl:es.length<1000000):az Tryz.prog 40 [.ps 1 (c9 es),.ps 5 (lits d)] (.dw [.ps 5 (lits (Al es d).1),.int .i64 (Al es d).2]):=by
 refine az.begin (rs:=[.tmp 4,.tmp 5]) (m:=30) 1000 Tryz.func40 rfl rfl rfl (by decide) ⟨bI _,trivial,trivial⟩ ?_;obtain⟨Y,hY⟩:∃Y,mz 0 es d=Y:=⟨_,rfl⟩;have hO:Al es d=tn d Y:=by unfold Al;rw[hY]
 rw[hO];have xG:=(uy hd.1).2.1;simp only[go_sem];refine aC.cA (ι:={i:Nat // i<=es.length/\mz i (es.drop i) d=Y}) 1000 (λq=>dV 32 [(0,.ps 1 (c9 es)),(1,.ps 5 (lits d)),(4,.a8),(5,.int .i64 0),(6,.int .i64 q.1)])
  (λ_=>[]) (λq=>es.length-q.1) ⟨0,aj _,by simpa using hY⟩ ?_ (λ_=>aj _) ?_
 ·simp only[go_sem,eh,bI]
 ·rintro⟨i,hi,aD⟩;by_cases bx:(i:Int)<es.length
  case neg =>
   have dm:i=es.length:=by omega
   subst dm;rw[aJ,mz]at aD;subst aD;simp only[go_sem,bx,lP];refine aC.g ?_;simp only[go_sem,tn]
  have aL:i<es.length:=by omega
  have hw:=W1' i (by omega)
  have g1:=yn aL;have hr:=kp _ (ay aL);have hC:=Yv9 hr hd;have hz:=Yte hr hd;have MN:(lQ es[i] d).2.1=true->∃j:Nat,(lQ es[i] d).1=(j:Int)/\j<d.length:=λh=>Qb ⟨hz,h⟩;rw[ai aL,mz]at aD;generalize es[i]=r at *
  generalize lQ r d=y at *
  obtain⟨y1,y2,y3⟩:=y;simp only at hC hz MN aD;subst hz;simp only[go_sem,bx,lP,g1]
  (repeat((with_reducible refine And.intro ?_ ?_);·omega))
  refine ak.bm [] hC (bL _ _ _) (by simp[go_sem,bI]) ?_;simp only[bj,bA,bz,if_true];refine aC.g ?_;cases y2 with
  |true =>
   rw[if_pos ⟨rfl,rfl⟩]at aD;subst aD;obtain⟨j,rfl,hj⟩:=MN rfl;have hWo:=Zy2 d j hj (by omega);simp only[go_sem];refine ak.bm [] hWo (bL _ _ _) (by simp[go_sem,bI]) ?_;rw[eW];simp only[ite_self];refine aC.g ?_;simp only[go_sem];refine aC.g ?_;simp only[go_sem,bh,tn]
  |false =>
   rw[if_neg (by rintro⟨_,h⟩;cases h)]at aD;simp only[go_sem,hw];refine⟨⟨i+1,by omega,aD⟩,?_,by simp only;omega⟩;simp only[go_sem,eh,bI]
theorem Yn6 {g:List Sy} {es:List (List Li)} {d:List Li} (kp:∀x∈es,iC g x) (hd:iC g d) (hl:es.length<1000000):az Tryz.prog 41 [.ps 1 (c9 es),.ps 5 (lits d)] (.int .i64 (yK es d)):=by
 refine az.begin (rs:=[.tmp 4]) (m:=23) 1000 Tryz.func41 rfl rfl rfl (by decide) trivial ?_;obtain⟨Y,hY⟩:∃Y,ky 0 es d=Y:=⟨_,rfl⟩;have hO:yK es d=qe Y:=by unfold yK;rw[hY]
 rw[hO];simp only[go_sem];refine aC.cA (ι:={i:Nat // i<=es.length/\ky i (es.drop i) d=Y}) 1000 (λq=>dV 25 [(0,.ps 1 (c9 es)),(1,.ps 5 (lits d)),(4,.int .i64 0),(5,.int .i64 q.1)])
  (λ_=>[]) (λq=>es.length-q.1) ⟨0,aj _,by simpa using hY⟩ ?_ (λ_=>aj _) ?_
 ·simp only[go_sem,eh,bI]
 ·rintro⟨i,hi,aD⟩;by_cases bx:(i:Int)<es.length
  case neg =>
   have dm:i=es.length:=by omega
   subst dm;rw[aJ,ky]at aD;subst aD;simp only[go_sem,bx,lP];refine aC.g ?_;simp only[go_sem,qe]
  have aL:i<es.length:=by omega
  have hw:=W1' i (by omega)
  have g1:=yn aL;have hr:=kp _ (ay aL);have hC:=Ynw hr hd;have hz:=Yo5 hr hd;rw[ai aL,ky,hz]at aD;generalize es[i]=r at *
  generalize pM r d=y at *
  simp only[go_sem,bx,lP,g1]
  (repeat((with_reducible refine And.intro ?_ ?_);·omega))
  refine ak.bm [] hC (bL _ _ _) (by simp[go_sem,bI]) ?_;simp only[bj,bA,bz,if_true];refine aC.g ?_;cases y with
  |true =>
   rw[if_pos ⟨rfl,rfl⟩]at aD;subst aD;simp only[go_sem,qe];refine aC.g ?_;simp only[go_sem,qe]
  |false =>
   rw[if_neg (by rintro⟨_,h⟩;cases h)]at aD;simp only[go_sem,hw];refine⟨⟨i+1,by omega,aD⟩,?_,by simp only;omega⟩;simp only[go_sem,eh,bI]
theorem Yll {g:List Sy}{d:List Li}(hd:iC g d)(u:List Int)(gn wh:Int):az Tryz.prog 37 [.ps 5 (lits d),.ps 1 (ints u),.int .i64 gn,.int .i64 wh] (Si.aH ⟨px d,u,gn,wh⟩):=by
 unfold Si.aH;refine az.begin (rs:=[.cell 8 28]) (m:=17) 1000 Tryz.func37 rfl rfl rfl (by decide) ⟨bI _,cY _,trivial,trivial,trivial⟩ ?_;have hN:=Ydu hd;simp only
 generalize px d=y at *
 simp only[go_sem];refine ak.bm [] hN (bL _ _ _) (by simp[go_sem,bI]) ?_;rw[eW];simp only[ite_self];refine aC.g ?_;simp only[go_sem]
theorem Ygr (s:Si)(h1:zy s.d)(h2:s.d.length<2 ^ 62)(h3:s.u.length<2 ^ 62):az Tryz.prog 13 [s.aH,s.aH] (.bool true):=by
 refine az.begin (rs:=[.tmp 4]) (m:=29) 1000 Tryz.func13 rfl rfl rfl (by decide) trivial ?_;have hE:=V7 s.d s.d h1 h1 h2;rw[(LH _ _).2 rfl]at hE;have hI:=TU s.u s.u h3;rw[decide_eq_true rfl]at hI;unfold Si.aH;simp only[go_sem];refine ak.bm [] (hE) (bL _ _ _) (by simp[go_sem,bI]) ?_;simp only[bj,bA,bz,if_true];refine aC.g ?_;simp only[go_sem];refine ak.bm [] (hI) (bL _ _ _) (by simp[go_sem,cY]) ?_;simp only[bj,bA,bz,if_true];refine aC.g ?_;simp only[go_sem,beq_self_eq_true]
def Qo (z:List Int)(r:ah)(σ':av):Prop:=(r=eR 0 1 (ints z)/\σ'=[cX (ints z)])\/(r=eR 1 1 (ints z)/\σ'=[none,cX (ints z)])
theorem LJ {n:Nat}(l:List Int):bH n [cX (ints l)]:=⟨Lr l,trivial⟩
theorem Yov (l more:List Int) (hl:l.length+more.length<1000000):ak Tryz.prog (.fn 39 [] []) [eR 0 1 (ints l),.ps 1 (ints more)] [cX (ints l)] (Qo (da l more)):=by
 refine ak.iq (rs:=[.tmp 4]) (m:=25) Tryz.func39 rfl rfl rfl rfl rfl ?_;refine aC.pad 1 (ae _) (by simp[go_sem,um,cY]) (LJ l) ?_;obtain⟨Z,hZ⟩:∃Z,da l more=Z:=⟨_,rfl⟩;rw[hZ];refine aC.g ?_;simp only[go_sem];have QC : [cX (ints l),none]=nh 0 (cX (ints l)):=rfl;rw[QC];refine aC.ep (ι:={q:Nat×List Int×Nat // q.1<=more.length/\(q.2.2=0\/q.2.2=1)/\da q.2.1 (more.drop q.1)=Z/\q.2.1.length<=l.length+q.1}) 1000
  (λq=>dV 27 [(0,eR q.1.2.2 1 (ints q.1.2.1)),(1,.ps 1 (ints more)),(4,.a8),(5,.int .i64 q.1.1)])
  (λq=>nh q.1.2.2 (cX (ints q.1.2.1))) (λq=>more.length-q.1.1) ⟨(0,l,0),aj _,.inl rfl,by simpa using hZ,bV _ _⟩ [] ?_ (λ_=>by unfold nh;split<;>simp) ?_
 ·refine eL rfl ?_;unfold nh;simp only[go_sem,cY,bT (cY _)]
 ·rintro ⟨⟨i,u,a⟩,hi,uV,aD,uI⟩;simp only at hi uV aD uI;by_cases bx:(i:Int)<more.length
  ·have aL:i<more.length:=by omega
   have hw:=W1' i (by omega)
   have g1:=vu aL;rw[ai aL]at aD;have aD:da (jK u more[i]) (more.drop (i+1))=Z:=aD;generalize more[i]=k at *
   have hI:=Nd k u (by omega);have nz:eE ⟨1,false,8,[.int .i64 0],.int .i64⟩ [.int .i64 k]:=⟨λx hx=>by rw[aK.1 hx];exact⟨rfl,rfl⟩,by decide,by decide,rfl⟩;have hle:u.length+1<=6000000000000:=by omega
   have lw:bG 0 (ints (u++[k])):=cY _;rw[yV]at lw;rcases uV with rfl|rfl
   ·unfold nh;simp only[go_sem,bx,ja,g1]
    (repeat((with_reducible refine And.intro ?_ ?_);·omega))
    refine ak.bm [0] hI ?_ (by simp[go_sem,cY]) ?_
    ·simp only[go_sem,k_,lb,nI]
    simp only[bj,bA,bz,if_true];refine aC.g ?_;by_cases hk:k∈u
    ·rw[show jK u k=u from if_pos hk]at aD
     simp only[go_sem,hk,hw];refine⟨⟨(i+1,u,0),aL,.inl rfl,aD,by simp only;omega⟩,[],eL rfl ?_,by simp only;omega⟩;simp only[go_sem,hw,cY,bT (cY _)]
    ·rw[show jK u k=u++[k] from if_neg hk]at aD
     simp only[go_sem,hk,bx,ja,g1,qg,nz,hle];refine⟨by omega,⟨(i+1,u++[k],1),aL,.inr rfl,aD,by simp only[aA,aq,aF];omega⟩,[(1,3),(3,1)],eL rfl ?_,by simp only;omega⟩;dsimp only
     rw[yV,qP (by simp),qQ (by simp),ja];simp only[go_sem,hw,cY,bT (cY _),bT lw,iD (aj _) lw]
   ·unfold nh;simp only[go_sem,bx,ja,g1]
    (repeat((with_reducible refine And.intro ?_ ?_);·omega))
    refine ak.bm [1] hI ?_ (by simp[go_sem,cY]) ?_
    ·simp only[go_sem,k_,lb,nI]
    simp only[bj,bA,bz,if_true];refine aC.g ?_;by_cases hk:k∈u
    ·rw[show jK u k=u from if_pos hk]at aD
     simp only[go_sem,hk,hw];refine⟨⟨(i+1,u,1),aL,.inr rfl,aD,by simp only;omega⟩,[],eL rfl ?_,by simp only;omega⟩;simp only[go_sem,hw,cY,bT (cY _)]
    ·rw[show jK u k=u++[k] from if_neg hk]at aD
     simp only[go_sem,hk,bx,ja,g1,qg,nz,hle];refine⟨by omega,⟨(i+1,u++[k],1),aL,.inr rfl,aD,by simp only[aA,aq,aF];omega⟩,[(1,3),(3,1)],eL rfl ?_,by simp only;omega⟩;dsimp only
     rw[yV,qP (by simp),qQ (by simp),ja];simp only[go_sem,hw,cY,bT (cY _),bT lw,iD (aj _) lw]
  ·have dm:i=more.length:=by omega
   subst dm;rw[aJ]at aD;have aD:u=Z:=aD;subst aD;simp only[go_sem,bx,ja];refine aC.g ?_;simp only[go_sem];rcases uV with rfl|rfl
   ·unfold nh;rw[gy];exact⟨[cX (ints u)],by simp[ic],by simp,LJ u,by simp[go_sem,um],.inl ⟨rfl,rfl⟩⟩
   ·unfold nh;rw[gy];exact⟨[none,cX (ints u)],by simp[ic],by simp,⟨trivial,Lr _,trivial⟩,by simp[go_sem,um],.inr ⟨rfl,rfl⟩⟩
theorem Ux (A:Option bS) (T:av) (l more:List Int) (hl:l.length+more.length<1000000) {K:ah->av->Prop}
  (h0:K (eR 0 1 (ints (da l more))) (cX (ints (da l more)):: A :: T)) (h1:K (eR (2+T.length) 1 (ints (da l more))) (none :: A :: (T++[cX (ints (da l more))]))) :
  ak Tryz.prog (.fn 39 [] []) [eR 0 1 (ints l),.ps 1 (ints more)] (cX (ints l):: A :: T) K:=by
 have hs:∀b,b<1->b=0:=λb hb=>by omega
 refine ak.kI (Z:=[cX (ints l)]) (f:=.fn 39 [] []) (args:=[eR 0 1 (ints l),.ps 1 (ints more)]) (λ_=>0) (λb b' h1 h2 e=>by rw[hs b h1,hs b' h2]) (λb hb=>by simp) (λb hb=>?_) (by simp[go_sem]) rfl ⟨um (by simp) _ _,cY _,trivial⟩ ?_ (LJ l) (Yov l more hl) ?_
 ·have:b=0:=hs b hb;subst this;exact⟨cX (ints l),rfl,by rw[GU];rfl⟩
 ·simp[go_sem,yZ,bT (cY _)]
 rintro r Z' (⟨rfl,rfl⟩|⟨rfl,rfl⟩)
 ·refine⟨by simp,LJ _,by simp[go_sem,um],?_⟩;simp only[yZ];have he:ix (λ_=>0) [cX (ints l)].length [cX (ints (da l more))] (cX (ints l):: A :: T)=cX (ints (da l more)):: A :: T:=by simp[ix,eQ,lX,GU]
  rw[he];exact h0
 ·refine⟨by simp,⟨trivial,Lr _,trivial⟩,by simp[go_sem,um],?_⟩;simp only[yZ];have he:ix (λ_=>0) [cX (ints l)].length [none,cX (ints (da l more))] (cX (ints l):: A :: T)=none :: A :: (T++[cX (ints (da l more))]):=by simp[ix,eQ,lX,GU]
  rw[he];have e2:lX (λ_=>0) [cX (ints l)].length (cX (ints l):: A :: T).length 1=2+T.length:=by simp[lX];omega
  rw[e2];exact h1
theorem Tf (k:Int)(W:Wk):(kR k W).u=jK W.u k:=by
 unfold kR jK;split<;>rfl
theorem X4:∀(l:List Int) (W:Wk),(jd l W).u=da W.u l
 |[],_=>rfl
 |k :: l,W=>by
  rw[jd,X4 l,Tf];rfl
theorem M3 {g:List Sy}{d:List Li}(hd:iC g d):∀l∈d,sY l:=λl hl=>by
 obtain⟨a1,a2⟩:=sQ hd hl;have b1:=(my a1).2;have b2:=(my a2).2;exact⟨by omega,by omega⟩
set_option maxHeartbeats 4000000 in
theorem Yuv (g:List Sy) (es:List (List Li)) (c:List Li) (h:qk es c) :
  az Tryz.prog 10 [.ps 4 (syms g),.ps 1 (c9 es),.ps 5 (lits c)] (.dw [(jo g es c).1.aH,.int .i64 (jo g es c).2]):=by
 refine az.iq (rs:=[.cell 6 28,.tmp 7]) (m:=90) Tryz.func10 rfl rfl rfl (by decide) ⟨⟨bI _,cY _,trivial,trivial,trivial⟩,trivial,trivial⟩ ?_;refine aC.pad 1 (ae _) (by simp[go_sem,cS,eh,bI]) trivial ?_;have p7:∀x∈c :: es,az Tryz.prog 16 [.ps 4 (syms g),.ps 5 (lits x)] (.int .i64 (aW g x)):=λx hx=>HM g x (λi hi=>by have:=(h.2 x hx).1 i hi;omega);have h1:=p7 c (by simp);have hl:=h.1;have hX:cm g (c :: es)≠0->jo g es c=(⟨[],[],0,0⟩,cm g (c :: es)):=λhw=>by unfold jo;rw[if_pos hw]
 have D8:cm g (c :: es)=0->jo g es c=pk (uC g es 70 (yR c)):=λhw=>by unfold jo;rw[if_neg (by simp[hw])]
 obtain⟨F,hF⟩:∃F,jo g es c=F:=⟨_,rfl⟩;rw[hF]at hX D8 ⊢;obtain⟨Z,hZ⟩:∃Z,cm g (c :: es)=Z:=⟨_,rfl⟩;rw[hZ]at hX D8;refine aC.g ?_;simp only[go_sem];refine ak.bm [] (h1) (bL _ _ _) (by simp[go_sem,cS,bI]) ?_;simp only[bj,bA,bz,if_true];refine aC.g ?_;simp only[go_sem];refine aC.cA (ι:={q:Nat×Int // q.1<=es.length/\(if q.2≠0 then q.2 else cm g (es.drop q.1))=Z}) 1000 (λq=>dV 93 [(0,.ps 4 (syms g)),(1,.ps 1 (c9 es)),(2,.ps 5 (lits c)),(6,.ptr 1 0),(7,.int .i64 0),(8,.int .i64 q.1.2),(9,.int .i64 q.1.1)])
  (λ_=>[none,some (.var [.a8,.a8,.int .i64 0,.int .i64 0])]) (λq=>es.length-q.1.1) ⟨(0,aW g c),aj _,by rw[cm]at hZ;exact hZ⟩ ?_ (λ_=>aj _) ?_
 ·simp only[go_sem,cS,eh,bI]
 ·rintro ⟨⟨i,e⟩,hi,aD⟩;simp only at hi aD;by_cases bx:(i:Int)<es.length/\e=0
  ·obtain⟨bx,rfl⟩:=bx;have aL:i<es.length:=by omega
   have hw:=W1' i (by omega)
   have g1:=yn aL;have lS:=p7 _ (ct _ (ay aL));rw[if_neg (by simp),ai aL,cm]at aD;generalize es[i]=d at *
   simp only[go_sem,bx,lP,g1]
   (repeat((with_reducible refine And.intro ?_ ?_);·omega))
   refine ak.bm [] (lS) (bL _ _ _) (by simp[go_sem,cS,bI]) ?_;simp only[bj,bA,bz,if_true];refine aC.g ?_;simp only[go_sem,hw];refine⟨⟨(i+1,aW g d),by simp only;omega,aD⟩,?_,by simp only;omega⟩;simp only[go_sem,cS,eh,bI]
  ·have heZ:e=Z:=by
    by_cases e0:e=0
    ·have dm:i=es.length:=by
      have:¬(i:Int)<es.length:=λk=>bx ⟨k,e0⟩;omega
     rw[if_neg (by simp[e0]),dm,aJ,cm]at aD;rw[e0];exact aD
    ·rw[if_pos e0]at aD;exact aD
   subst heZ;by_cases e0:e=0
   case neg =>
    rw[hX e0];unfold Si.aH;by_cases nP:(i:Int)<es.length
    ·simp only[go_sem,nP,lP,e0];refine aC.g ?_;simp only[go_sem,e0,show lits []=[] from rfl,show ints []=[] from rfl]
    ·simp only[go_sem,nP,lP,e0];refine aC.g ?_;simp only[go_sem,e0,show lits []=[] from rfl,show ints []=[] from rfl]
   subst e0;have nP:¬(i:Int)<es.length:=λk=>bx ⟨k,rfl⟩;have D8:=D8 rfl;have Hg:=EF h hZ;have vL:iC g c:=⟨DH hZ c (by simp),(h.2 c (by simp)).2⟩;have hT:=Wz c (M3 vL) (by have:=(uy vL.1).2.1;omega);have kp:=L_ h hZ;clear p7 h1 hX aD;simp only[go_sem,nP,lP];refine aC.g ?_;simp only[go_sem];refine ak.bm [] (hT) (bL _ _ _) (by simp[go_sem,bI]) ?_;rw[eW];simp only[ite_self];refine aC.g ?_;simp only[go_sem];refine aC.ep (ι:={q:Nat×Wk // IW g es q.1 q.2/\uC g es q.1 q.2=uC g es 70 (yR c)}) 1000
    (λq=>dV 93 [(0,.ps 4 (syms g)),(1,.ps 1 (c9 es)),(6,.ptr 1 0),(7,.int .i64 0),(10,.ps 5 (lits q.1.2.d)),(11,eR 0 1 (ints q.1.2.u))])
    (λq=>[cX (ints q.1.2.u),some (.var [.a8,.a8,.int .i64 0,.int .i64 0])]) (λq=>q.1.1) ⟨(70,yR c),Hg,rfl⟩ [] ?_ (λ_=>by simp) ?_
   ·refine eL rfl ?_;simp only[go_sem,show(yR c).u=[] from rfl,show(yR c).d=iI c from rfl,show ints []=[] from rfl,pU,pC,cS,eh,bI,bT (cS _),bT (eh _),bT (bI _)]
   ·rintro ⟨⟨n,W⟩,hI,aD⟩;simp only at hI aD;obtain⟨n,rfl⟩:∃m,n=m+1:=⟨n-1,by have:=hI.mu;omega⟩;rw[uC]at aD;obtain⟨fA,Dh⟩:=PR h hZ hI.rt;have xG:=(uy hI.rt.1).2.1;have uI:=hI.len;have zQ:=Ycq W.d (M3 hI.rt) (by omega);have Fm:=Yjb g es W.d fA;rw[Zu0 fA]at Fm;have BX:=Yup kp hI.rt (by omega);have zP:=Yn6 kp hI.rt (by omega);have xD:=Yll hI.rt W.u;have ny:=PZ h hZ hI;have JK:=λh0=>Lz (g:=g) fA h0;have RI:=N3 g es W.d;have JZ:=hI.uP;have AP:=hI.gone;have Q9:=hI.e;have Ay:=YJ hI.rt;have hsc:=KU g es W;unfold Al at BX;unfold yK at zP;generalize er (dk g es) W=SC at *
    generalize cT g es W.d=N at *
    obtain⟨x,l,f⟩:=N;simp only at Fm JK RI hsc;rcases hsc with⟨q1,e⟩|⟨q1,q2,e⟩|⟨q1,q2,q3,e⟩|⟨q1,q2,q3,y,q4,e⟩|⟨q1,q2,q3,q4,k,q5,e⟩|⟨q1,q2,q3,q4,q5,e⟩
    ·subst e;rw[if_neg (by simp)]at aD;have Fk:F=(⟨px W.d,W.u,1, -1⟩,0):=by rw[D8,<-aD];unfold pk;simp only[Q9,Ay,JZ];rfl
     rw[Fk];unfold Si.aH;rw[q1]at zQ;have xD:=xD 1 (-1);unfold Si.aH at xD;simp only at xD;simp only[go_sem];refine ak.bm [] (zQ) (bL _ _ _) (by simp[go_sem,bI]) ?_;simp only[bj,bA,bz,if_true];refine aC.g ?_;simp only[go_sem];refine ak.tree (args':=[.ps 5 (lits W.d),.ps 1 (ints W.u),.int .i64 1,.int .i64 (-1)]) [0] ?_ ?_
     ·simp only[go_sem,k_,lb,nI]
     refine dn.c ?_;refine ak.bm [] xD (bL _ _ _) (by simp[go_sem,bI,cY]) ?_;rw[eW];simp only[ite_self];refine aC.g ?_;simp only[go_sem,k_,lb,fw,iW];refine aC.g ?_;simp only[go_sem]
    ·subst e;rw[if_neg (by simp)]at aD;have Fk:F=(⟨[],[],0,0⟩,f):=by rw[D8,<-aD];unfold pk;simp only;rw[if_pos q2]
     rw[Fk];unfold Si.aH;rw[q1]at zQ;simp only[go_sem];refine ak.bm [] (zQ) (bL _ _ _) (by simp[go_sem,bI]) ?_;simp only[bj,bA,bz,if_true];refine aC.g ?_;simp only[go_sem];refine ak.bm [] (Fm) (bL _ _ _) (by simp[go_sem,cS,eh,bI]) ?_;rw[eW];simp only[ite_self];refine aC.g ?_;simp only[go_sem,q2];refine aC.g ?_;simp only[go_sem,show lits []=[] from rfl,show ints []=[] from rfl]
    ·have rW:IW g es n SC.2:=ny (by rw[e]);rw[if_pos (by rw[e])]at aD;have xj:SC.2.d=iI x:=by rw[e];exact(P_ _ _).1
     have xP:SC.2.u=da W.u l:=by rw[e];exact X4 _ _
     obtain⟨_,hx,_⟩:=JK q2;have Mq:=Wz x (M3 hx) (by have:=(uy hx.1).2.1;omega);have tE:(0:Int)<l.length:=by
      cases l with
      |nil=>exact absurd rfl q3
      |cons a l=>simp only[aq];omega
     subst q2;rw[q1]at zQ;generalize SC.2=Y at *
     simp only[go_sem];refine ak.bm [] (zQ) (bL _ _ _) (by simp[go_sem,bI]) ?_;simp only[bj,bA,bz,if_true];refine aC.g ?_;simp only[go_sem];refine ak.bm [] (Fm) (bL _ _ _) (by simp[go_sem,cS,eh,bI]) ?_;rw[eW];simp only[ite_self];refine aC.g ?_;simp only[go_sem,ja,tE];refine ak.bm [] (Mq) (bL _ _ _) (by simp[go_sem,bI]) ?_;rw[eW];simp only[ite_self];refine aC.g ?_;simp only[go_sem];refine Ux _ [] W.u l (by omega) ?_ ?_
     ·refine aC.g ?_;simp only[go_sem];refine⟨⟨(n,Y),rW,aD⟩,[],eL rfl ?_,by simp only;omega⟩;simp only[xj,xP];simp only[go_sem,cS,eh,bI,cY,bT (cS _),bT (eh _),bT (bI _)]
     ·refine aC.g ?_;simp only[go_sem];refine⟨⟨(n,Y),rW,aD⟩,[(0,2),(2,0)],eL rfl ?_,by simp only;omega⟩;simp only[xj,xP];simp only[go_sem,cS,eh,bI,cY,bT (cS _),bT (eh _),bT (bI _)]
    ·have rW:IW g es n SC.2:=ny (by rw[e]);rw[if_pos (by rw[e])]at aD;have xj:SC.2.d=W.d.eraseIdx y.2:=by rw[e];exact(MX _ _).1
     have xP:SC.2.u=da W.u [(y.1:Int)]:=by rw[e];exact Tf _ _
     subst q2 q3;rw[q1]at zQ;rw[q4]at BX;simp only[tn]at BX;generalize SC.2=Y at *
     have oU:(0:Int)<=(y.1:Int):=by omega
     simp only[go_sem];refine ak.bm [] (zQ) (bL _ _ _) (by simp[go_sem,bI]) ?_;simp only[bj,bA,bz,if_true];refine aC.g ?_;simp only[go_sem];refine ak.bm [] (Fm) (bL _ _ _) (by simp[go_sem,cS,eh,bI]) ?_;rw[eW];simp only[ite_self];refine aC.g ?_;simp only[go_sem,ja,aF];refine ak.bm [] (BX) (bL _ _ _) (by simp[go_sem,eh,bI]) ?_;rw[eW];simp only[ite_self];refine aC.g ?_;simp only[go_sem,oU];refine ak.tree (args':=[eR 0 1 (ints W.u),.ps 1 (ints [(y.1:Int)])]) [2] ?_ ?_
     ·simp only[go_sem,k_,lb,show ints [(y.1:Int)]=[.int .i64 y.1] from rfl]
     refine dn.c ?_;refine Ux _ [some (.row [.int .i64 (y.1:Int)] (max 0 1))] W.u [(y.1:Int)] (by simp only[aq,aF];omega) ?_ ?_
     ·refine aC.g ?_;simp only[go_sem];refine⟨⟨(n,Y),rW,aD⟩,[],eL rfl ?_,by simp only;omega⟩;simp only[xj,xP];simp only[go_sem,cS,eh,bI,cY,bT (cS _),bT (eh _),bT (bI _)]
     ·refine aC.g ?_;simp only[go_sem];refine⟨⟨(n,Y),rW,aD⟩,[(0,3),(3,0)],eL rfl ?_,by simp only;omega⟩;simp only[xj,xP];simp only[go_sem,cS,eh,bI,cY,bT (cS _),bT (eh _),bT (bI _)]
    ·subst e;rw[if_neg (by simp)]at aD;have Fk:F=(⟨px W.d,W.u,2,(k:Int)⟩,0):=by rw[D8,<-aD];unfold pk;simp only[Q9,Ay];rfl
     rw[Fk];unfold Si.aH;subst q2 q3;rw[q1]at zQ;rw[q4]at BX;rw[q5]at zP;simp only[tn,qe]at BX zP;have wR:(0:Int)<=(k:Int):=by omega
     have xD:=xD 2 k;unfold Si.aH at xD;simp only at xD;simp only[go_sem];refine ak.bm [] (zQ) (bL _ _ _) (by simp[go_sem,bI]) ?_;simp only[bj,bA,bz,if_true];refine aC.g ?_;simp only[go_sem];refine ak.bm [] (Fm) (bL _ _ _) (by simp[go_sem,cS,eh,bI]) ?_;rw[eW];simp only[ite_self];refine aC.g ?_;simp only[go_sem,ja,aF];refine ak.bm [] (BX) (bL _ _ _) (by simp[go_sem,eh,bI]) ?_;rw[eW];simp only[ite_self];refine aC.g ?_;simp only[go_sem];refine ak.bm [] (zP) (bL _ _ _) (by simp[go_sem,eh,bI]) ?_;simp only[bj,bA,bz,if_true];refine aC.g ?_;simp only[go_sem,wR];refine ak.tree (args':=[.ps 5 (lits W.d),.ps 1 (ints W.u),.int .i64 2,.int .i64 k]) [0] ?_ ?_
     ·simp only[go_sem,k_,lb,nI]
     refine dn.c ?_;refine ak.bm [] xD (bL _ _ _) (by simp[go_sem,bI,cY]) ?_;rw[eW];simp only[ite_self];refine aC.g ?_;simp only[go_sem,k_,lb,fw,iW];refine aC.g ?_;simp only[go_sem]
    ·subst e;rw[if_neg (by simp)]at aD;have Fk:F=(⟨px W.d,W.u,0, -1⟩,0):=by rw[D8,<-aD];unfold pk;simp only[Q9,Ay,JZ,AP];rfl
     rw[Fk];unfold Si.aH;subst q2 q3;rw[q1]at zQ;rw[q4]at BX;rw[q5]at zP;simp only[tn,qe]at BX zP;have xD:=xD 0 (-1);unfold Si.aH at xD;simp only at xD;simp only[go_sem];refine ak.bm [] (zQ) (bL _ _ _) (by simp[go_sem,bI]) ?_;simp only[bj,bA,bz,if_true];refine aC.g ?_;simp only[go_sem];refine ak.bm [] (Fm) (bL _ _ _) (by simp[go_sem,cS,eh,bI]) ?_;rw[eW];simp only[ite_self];refine aC.g ?_;simp only[go_sem,ja,aF];refine ak.bm [] (BX) (bL _ _ _) (by simp[go_sem,eh,bI]) ?_;rw[eW];simp only[ite_self];refine aC.g ?_;simp only[go_sem];refine ak.bm [] (zP) (bL _ _ _) (by simp[go_sem,eh,bI]) ?_;simp only[bj,bA,bz,if_true];refine aC.g ?_;simp only[go_sem];refine ak.tree (args':=[.ps 5 (lits W.d),.ps 1 (ints W.u),.int .i64 0,.int .i64 (-1)]) [0] ?_ ?_
     ·simp only[go_sem,k_,lb,nI]
     refine dn.c ?_;refine ak.bm [] xD (bL _ _ _) (by simp[go_sem,bI,cY]) ?_;rw[eW];simp only[ite_self];refine aC.g ?_;simp only[go_sem,k_,lb,fw,iW];refine aC.g ?_;simp only[go_sem]
theorem Yua {g:List Sy} {es:List (List Li)} {c:List Li} (h:qk es c):zy (jo g es c).1.d/\(jo g es c).1.d.length<=32/\(jo g es c).1.u.length<1000000/\((jo g es c).2≠0->(jo g es c).1.gone=0):=by
 rcases Ycw (g:=g) h with⟨h1,h2⟩|⟨hw,n,X,hI,hc⟩
 ·rw[h2];exact⟨λl hl=>(by cases hl),aj _,qq _,λ_=>rfl⟩
 ·have hr:=Ywy hI.rt;have hs:=Yti hr;have hl:=(uy hr.1).2.1;have hu:=hI.len;rcases hc with⟨q1,e⟩|⟨q1,q2,e⟩|⟨q1,q2,q3,q4,k,q5,e⟩|⟨q1,q2,q3,q4,q5,e⟩
  ·rw[e];exact⟨hs.1,hl,by simp only;omega,λh=>absurd rfl h⟩
  ·rw[e];exact⟨λl hl=>(by cases hl),aj _,qq _,λ_=>rfl⟩
  ·rw[e];exact⟨hs.1,hl,by simp only;omega,λh=>absurd rfl h⟩
  ·rw[e];exact⟨hs.1,hl,by simp only;omega,λh=>absurd rfl h⟩
set_option maxHeartbeats 1000000 in
theorem Zkr (g:List Sy) (es:List (List Li)) (c:List Li) (f1:∀x∈es,p5 x) (f2:p5 c) (gM:c.length<=2600000000000) {W:World} {vs:Array Value}
  (h2:vs.size=([.ps 4 (syms g),.ps 1 (c9 es),.ps 5 (lits c)]:List ah).length)
  (h3:∀k,k<([.ps 4 (syms g),.ps 1 (c9 es),.ps 5 (lits c)]:List ah).length->cn W ux vd (vs.getD k undef) (([.ps 4 (syms g),.ps 1 (c9 es),.ps 5 (lits c)]:List ah).getD k .undef)) :
  Calls Tryz.prog 3 vs W λe w'=>e=.returned (.bool true)/\RowKit.Below W.heap.size W w':=by
 refine Ydv (args:=[.ps 4 (syms g),.ps 1 (c9 es),.ps 5 (lits c)]) (rs:=[.tmp 6]) (m:=63) 1000 Tryz.func3 rfl rfl rfl rfl ?_ (λx hx=>by cases hx) h2 h3;clear h2 h3;simp only[go_sem];refine ak.bm [] (Ymn g es c gM) (bL _ _ _) (by simp[go_sem,cS,eh,bI]) ?_;simp only[bj,bA,bz,if_true];refine aC.g ?_;cases Rf:uU g es c with
 |false=>simp only[go_sem]
 |true =>
 obtain⟨he,hc,apC,hr⟩:=Ypa Rf;have fA:=Yw7 he hc f1 f2;have hF:=Qc g es c fA;have hD:=Yuv g es c fA;have Z3:=Nu g es c fA;obtain⟨s1,s2,s3,s4⟩:=Yua (g:=g) fA;have hS:=Ygr (jo g es c).1 s1 (by omega) (by omega);generalize jo g es c=z at *
 obtain⟨⟨d,u,gn,wh⟩,e⟩:=z;unfold Si.aH at hF hD hS;simp only at hF hD Z3 hS s4;simp only[go_sem];refine ak.bm [] hF (bL _ _ _) ⟨cS _,eh _,bI _,trivial⟩ ?_;rw[eW];simp only[ite_self];refine aC.g ?_;simp only[go_sem];refine ak.bm [] hD (bL _ _ _) ⟨cS _,eh _,bI _,trivial⟩ ?_;rw[eW];simp only[ite_self];refine aC.g ?_;simp only[go_sem];refine ak.bm [] Z3 (bL _ _ _) ⟨cS _,eh _,bI _,trivial⟩ ?_;rw[eW];simp only[ite_self];refine aC.g ?_;simp only[go_sem];refine ak.bm [] (Yb7) (bL _ _ _) (by simp[go_sem, ]) ?_;simp only[bj,bA,bz,if_true];refine aC.g ?_;simp only[go_sem];refine ak.bm [] hS (bL _ _ _) (by simp[go_sem,bI,cY]) ?_;rw[eW];simp only[ite_self];refine aC.g ?_;by_cases e0:e=0
 ·subst e0;by_cases g0:gn=0
  ·simp only[go_sem,g0,beq_self_eq_true,decide_true]
  ·simp only[go_sem,g0,beq_self_eq_true,decide_true]
 ·have g0:=s4 e0;subst g0;simp only[go_sem,e0,beq_self_eq_true,decide_true]
end Go.Proofs
