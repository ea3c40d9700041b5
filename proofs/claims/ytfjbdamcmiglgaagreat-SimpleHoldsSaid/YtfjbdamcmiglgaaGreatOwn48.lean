/- Part 48 of my own framework and of the walks of functions: Cr, Da, Db, Dc, Bc, Dd, De, Zg, Zh, Ga, Gb, Ea, Eb, Ec, Gc, Ed, Ee, Gd. -/
import Derived.Test.YtfjbdamcmiglgaaGreatOwn47
abbrev me:=@List.mem_eraseIdx_iff_getElem
set_option linter.unusedVariables false
set_option linter.unusedSectionVars false
set_option linter.unusedSimpArgs false
namespace Go.Proofs
open Go Go.dm
attribute [local go_sem] Nat.reduceAdd Nat.reduceSub Nat.reduceMul Nat.reduceLeDiff Nat.reduceEqDiff Nat.reduceBEq Nat.reduceLT Nat.le_refl Int.natCast_zero Nat.sub_zero List.length_map Int.toNat_natCast Int.natCast_one Int.reduceEq Int.reduceLT Int.reduceLE Int.reduceNe Int.sub_zero Int.zero_add Int.toNat_one
theorem Js (b sz:Nat) (l:List ah):(jk b sz l).cells=[jk b sz l]:=by cases l<;>rfl
theorem Xt:((2:Nat):Int)=2:=rfl
theorem Xu:((3:Nat):Int)=3:=rfl
theorem Kc:((4:Nat):Int)=4:=rfl
theorem Xr:Int.toNat 2=2:=rfl
theorem Xs:Int.toNat 3=3:=rfl
theorem I_ {Fs:List (Wk→Int×Wk)} {W:Wk} {k:Nat} (hk:k<Fs.length) (h:(Fs[k] W).1=0):dE (Fs.drop k) W=dE (Fs.drop (k+1)) W:=by
 rw [ao hk,dE,if_pos h]
theorem Jo {Fs:List (Wk→Int×Wk)} {W:Wk} {k:Nat} (hk:k<Fs.length) (h:¬ (Fs[k] W).1=0):dE (Fs.drop k) W=Fs[k] W:=by
 rw [ao hk,dE,if_neg h]
set_option maxHeartbeats 2000000 in
theorem Zg (g:List Sy) (es:List (List Li)) (c:List Li) (I:Nat→Wk→Prop) (kj:∀ x∈c :: es,pn x) (hc:cQ g (c :: es)=0→l6 c) (hl:es.length<1000000) (HB:cQ g (c :: es)=0→∀ x∈es,l6 x) (Ki:cQ g (c :: es)=0→I 70 (xB c))
  (hI:∀ n W,I n W→(∃ m,n=m+1)∧l6 W.d∧su es W.d∧((cL g es W.d).2.2=0→l6 (cL g es W.d).1)∧W.u.length+(cL g es W.d).2.1.length<1000000)
  (oN:∀ n W,I (n+1) W→(dE (cP g es) W).1=1→I n (dE (cP g es) W).2)
  (gR:∀ n W,I n W→(dE (cP g es) W).1≠1→(dE (cP g es) W).2.e=0→l6 (dE (cP g es) W).2.d∧Tm.bG (ck (dE (cP g es) W).2.d)<99999999) :
  aD Tryz.prog 9 [.ps 4 (syms g), .ps 1 (dp es), .ps 5 (lits c)] (.dT [(iJ g es c).1.aM, .int .i64 (iJ g es c).2]):=by
 refine aD.begin (rs:=[.cell 6 28, .tmp 7]) (m:=96) 1000 Tryz.func9 rfl rfl rfl (by decide) ⟨⟨cy _,dq _,trivial,trivial,trivial⟩,trivial,trivial⟩ ?_;obtain ⟨Z,hZ⟩:∃ Z,iJ g es c=Z:=⟨_,rfl⟩;rw [hZ];unfold iJ at hZ;simp only [go_sem];refine Yf2 es hl (fun he=>?_) (fun he=>?_) (fun he=>?_)
 case' refine_1 =>
  refine aG.go 1000 ?_;simp only [go_sem];refine (Nw es c hl).1 he ?_;refine aG.go 1000 ?_;simp only [go_sem,m9]
 case' refine_2 =>
  refine aG.go 1000 ?_;simp only [go_sem];refine (Nw es c hl).2.1 he ?_;refine aG.go 1000 ?_;simp only [go_sem,m9]
 case' refine_3 =>
  refine aG.go 1000 ?_;simp only [go_sem];refine (Nw es c hl).2.2 he ?_;refine aG.go 1000 ?_;simp only [go_sem,m9]
 all_goals
  obtain ⟨L,hL⟩:∃ L,c :: es=L:=⟨_,rfl⟩;have hlen:es.length+1=L.length:=by rw [← hL];rfl
  have jT:L.length<2000000:=by omega
  rw [hL,hlen];rw [hL] at kj hZ Ki HB hc;clear he;refine aG.cO (ι:={i:Nat // i≤L.length∧cQ g (L.drop i)=cQ g L}) 1000 (fun i=>fe 99 [(0, .ps 4 (syms g)),(1, .ps 1 (dp es)),(2, .ps 5 (lits c)),(6, .ptr 0 0),(7, .int .i64 0),(21, .ps 1 (dp L)),(22, .int .i64 L.length),(23, .int .i64 i.1)])
   (fun _=>[some (.var [.aW, .aW, .int .i64 0, .int .i64 0])]) (fun i=>L.length - i.1) ⟨0,by simp⟩ ?_ (fun _=>au _) ?_
  ·simp only [go_sem,dy,fO,cy]
  ·rintro ⟨i,hi,aN⟩;by_cases bA:(i:Int)<L.length
   ·have aU:i<L.length:=by omega
    have hd:cQ g (L.drop i)=if aZ g L[i]≠0 then aZ g L[i] else cQ g (L.drop (i+1)):=by
     rw [ao aU];rfl
    simp only [go_sem,bA,m9,Ae aU]
    (repeat ((with_reducible refine And.intro ?_ ?_); ·omega))
    refine aq.bS [] (Gq g L[i] (kj _ (aC aU))) (cx _ _ _) (by simp [go_sem,dy,cy]) ?_;simp only [bC,bN,bL,if_true];refine aG.go 1000 ?_;by_cases c0:aZ g L[i]=0
    ·simp only [go_sem,c0];refine ⟨⟨i+1,aU,by rw [← aN,hd,if_neg (by simp [c0])]⟩,?_,by simp only;omega⟩;simp only [go_sem,dy,fO,cy];rw [dQ (by omega)];rfl
    ·simp only [go_sem,c0];refine aG.go 1000 ?_;rw [hd,if_pos c0] at aN;rw [if_pos (by rw [← aN];exact c0)] at hZ;subst hZ;simp only [go_sem,aN,Si.aM];exact ⟨rfl,rfl⟩
   ·have dZ:i=L.length:=by omega
    subst dZ;rw [aX,cQ] at aN;rw [if_neg (by rw [← aN];simp)] at hZ;have Hs:=HB aN.symm;have Ki:=Ki aN.symm;have hT:=Wf c (hc aN.symm);simp only [go_sem,bA];refine aG.go 1000 ?_;simp only [go_sem];refine aq.bS [] hT (cx _ _ _) ⟨cy _,trivial⟩ ?_;rw [je];simp only [ite_self];refine aG.go 1000 ?_;simp only [go_sem];refine ⟨rfl,rfl,rfl,rfl,?_⟩;refine aG.gf (ι:={q:Nat×Wk // I q.1 q.2∧mL (rV g es q.1 q.2)=Z}) 1000 (fun _=>fe 99 [(6, .ptr 0 0),(7, .int .i64 0),(11, .ptr 1 0),(12, .os 2 0 4 1)])
     (fun q=>sN (some (.var [.aW, .aW, .int .i64 0, .int .i64 0])) g es q.1.2) (fun q=>q.1.1) ⟨(70,xB c),Ki,hZ⟩ [] ?_ (fun _=>au _) ?_
    ·refine iz rfl ?_;unfold sN lb xB;simp only [go_sem,fO,dq,t_,dy,cy,cK (fO _),cK (dq _),cK (dy _),cK (cy _),show ints []=[] from rfl,s_,sM]
    ·rintro ⟨⟨n,W⟩,yv,hF⟩;simp only at yv hF;obtain ⟨⟨n,rfl⟩,k1,k2,k3,k4⟩:=hI n W yv;rw [rV] at hF;unfold sN;simp only [go_sem];refine aG.cO (ι:={k:Nat // k≤4∧dE ((cP g es).drop k) W=dE (cP g es) W}) 1000 (fun k=>fe 99 [(6, .ptr 0 0),(7, .int .i64 0),(11, .ptr 1 0),(12, .os 2 0 4 1),(50, .os 2 0 4 1),(51, .int .i64 4),(52, .int .i64 k.1)])
      (fun _=>sN (some (.var [.aW, .aW, .int .i64 0, .int .i64 0])) g es W) (fun k=>4 - k.1) ⟨0,au _,rfl⟩ ?_ (fun _=>au _) ?_
     ·unfold sN lb;simp only [go_sem,fO,dq,t_,dy,cy];rfl
     rintro ⟨k,hk,aN⟩;have e7:k=0∨k=1∨k=2∨k=3∨k=4:=by omega
     rcases e7 with rfl | rfl | rfl | rfl | rfl
     ·have gx:=Yg2 g es W k1;have sR:=Yhh W;have ow:(iw W).1=0→dE ((cP g es).drop 1) W=dE (cP g es) W:=fun h=>by rw [← aN];exact (I_ (Fs:=cP g es) (k:=0) (show 0<4 by decide) h).symm
      have sn:¬ (iw W).1=0→dE (cP g es) W=iw W:=fun h=>by rw [← aN];exact Jo (Fs:=cP g es) (k:=0) (show 0<4 by decide) h
      generalize iw W=z at *
      obtain ⟨z1,z2⟩:=z;unfold ng at sR;simp only [false_and,true_and,false_or,or_false] at sR ow sn;unfold sN;simp only [go_sem,bI,bm];refine ⟨by omega,JV (o:=(some (.var [.aW, .aW, .int .i64 0, .int .i64 0]))) (g:=g) (es:=es) (W:=W) (z:=(z1,z2)) gx ?_ (fun h=>?_) (fun h=>?_)⟩
      ·rcases sR with ⟨rfl,rfl⟩ | rfl
       ·unfold sN;refine aG.go 1000 ?_;simp only [go_sem];refine ⟨⟨1,by omega,ow rfl⟩,?_,by simp only;omega⟩;unfold lb;simp only [go_sem,fO,dq,t_,dy,cy,cK (fO _),cK (dq _),cK (dy _),cK (cy _)]
        all_goals rfl
       ·have hsc:=sn (by decide);have pH:=gR (n+1) W yv (by rw [hsc];simp);rw [hsc] at pH hF;rw [if_neg (by simp)] at hF;simp only at pH hF;unfold sN;refine aG.go 1000 ?_;simp only [go_sem];refine aG.go 1000 ?_;simp only [go_sem];refine aG.go 1000 ?_;unfold mL at hF;by_cases he:z2.e=0
        ·rw [if_neg (by simp [he])] at hF;have gR:=pH he;have DR:=JP z2.d gR.1 gR.2;unfold lb;simp only [go_sem,he];refine aq.bS [] DR (cx _ _ _) ⟨cy _,trivial⟩ ?_;rw [je];simp only [ite_self];refine aG.go 1000 ?_;by_cases hn:(nh z2.d).2=0
         ·rw [if_neg (by simp [hn])] at hF;simp only [go_sem,hn];refine aG.draw [.no, .no, .no, .no, .no, .no, .no, .no, .no, .no, .no, .no, .no, .no,⟨none,[0],[]⟩] 4 4 mixed rfl rfl (by decide) ?_;simp only [go_sem,da,Js,yN];refine aG.go 1000 ?_;simp only [go_sem,yN];subst hF;refine ⟨⟨xa _ _ _,?_,cx _ _ _⟩,rfl⟩;rw [rO rfl rfl];trivial
         ·rw [if_pos hn] at hF;subst hF;simp only [go_sem,hn,Si.aM];exact ⟨rfl,rfl⟩
        ·rw [if_pos he] at hF;subst hF;unfold lb;simp only [go_sem,he];refine aG.go 1000 ?_;simp only [go_sem,he];refine aG.draw [.no,⟨none,[],[0]⟩,⟨none,[],[0]⟩,⟨none,[],[0]⟩,⟨none,[],[0]⟩,⟨none,[0],[]⟩] 4 4 mixed rfl rfl (by decide) ?_;simp only [go_sem,da];refine aG.go 1000 ?_;simp only [go_sem,Si.aM];exact ⟨rfl,rfl⟩
      ·simp only at h;subst h;simp at sR
      ·simp only at h;subst h;simp at sR
     ·have gx:=Ykg g es W k2 k3 k4;have sR:=Yne g es W;have ow:(j4 g es W).1=0→dE ((cP g es).drop 2) W=dE (cP g es) W:=fun h=>by rw [← aN];exact (I_ (Fs:=cP g es) (k:=1) (show 1<4 by decide) h).symm
      have sn:¬ (j4 g es W).1=0→dE (cP g es) W=j4 g es W:=fun h=>by rw [← aN];exact Jo (Fs:=cP g es) (k:=1) (show 1<4 by decide) h
      generalize j4 g es W=z at *
      obtain ⟨z1,z2⟩:=z;unfold ng at sR;simp only [false_and,true_and,false_or,or_false] at sR ow sn;unfold sN;simp only [go_sem,bI,bm];refine ⟨by omega,JV (o:=(some (.var [.aW, .aW, .int .i64 0, .int .i64 0]))) (g:=g) (es:=es) (W:=W) (z:=(z1,z2)) gx ?_ (fun h=>?_) (fun h=>?_)⟩
      ·rcases sR with ⟨rfl,rfl⟩ | rfl | rfl
       ·unfold sN;refine aG.go 1000 ?_;simp only [go_sem];refine ⟨⟨2,by omega,ow rfl⟩,?_,by simp only;omega⟩;unfold lb;simp only [go_sem,fO,dq,t_,dy,cy,cK (fO _),cK (dq _),cK (dy _),cK (cy _)]
        all_goals rfl
       ·have hsc:=sn (by decide);have vj:=oN n W yv (by rw [hsc]);rw [hsc] at vj hF;rw [if_pos rfl] at hF;unfold sN;refine aG.go 1000 ?_;simp only [go_sem];refine ⟨⟨(n,z2),vj,hF⟩,[],iz rfl ?_,by simp only;omega⟩;unfold lb;simp only [go_sem,fO,dq,t_,dy,cy,cK (fO _),cK (dq _),cK (dy _),cK (cy _)]
       ·have hsc:=sn (by decide);have pH:=gR (n+1) W yv (by rw [hsc];simp);rw [hsc] at pH hF;rw [if_neg (by simp)] at hF;simp only at pH hF;unfold sN;refine aG.go 1000 ?_;simp only [go_sem];refine aG.go 1000 ?_;simp only [go_sem];refine aG.go 1000 ?_;unfold mL at hF;by_cases he:z2.e=0
        ·rw [if_neg (by simp [he])] at hF;have gR:=pH he;have DR:=JP z2.d gR.1 gR.2;unfold lb;simp only [go_sem,he];refine aq.bS [] DR (cx _ _ _) ⟨cy _,trivial⟩ ?_;rw [je];simp only [ite_self];refine aG.go 1000 ?_;by_cases hn:(nh z2.d).2=0
         ·rw [if_neg (by simp [hn])] at hF;simp only [go_sem,hn];refine aG.draw [.no, .no, .no, .no, .no, .no, .no, .no, .no, .no, .no, .no, .no, .no,⟨none,[0],[]⟩] 4 4 mixed rfl rfl (by decide) ?_;simp only [go_sem,da,Js,yN];refine aG.go 1000 ?_;simp only [go_sem,yN];subst hF;refine ⟨⟨xa _ _ _,?_,cx _ _ _⟩,rfl⟩;rw [rO rfl rfl];trivial
         ·rw [if_pos hn] at hF;subst hF;simp only [go_sem,hn,Si.aM];exact ⟨rfl,rfl⟩
        ·rw [if_pos he] at hF;subst hF;unfold lb;simp only [go_sem,he];refine aG.go 1000 ?_;simp only [go_sem,he];refine aG.draw [.no,⟨none,[],[0]⟩,⟨none,[],[0]⟩,⟨none,[],[0]⟩,⟨none,[],[0]⟩,⟨none,[0],[]⟩] 4 4 mixed rfl rfl (by decide) ?_;simp only [go_sem,da];refine aG.go 1000 ?_;simp only [go_sem,Si.aM];exact ⟨rfl,rfl⟩
      ·simp only at h;subst h;have hsc:=sn (by decide);have vj:=oN n W yv (by rw [hsc]);rw [hsc] at vj hF;rw [if_pos rfl] at hF;refine aG.go 1000 ?_;simp only [go_sem];refine ⟨⟨(n,z2),vj,hF⟩,[(3,4),(4,3)],iz rfl ?_,by simp only;omega⟩;unfold lb;simp only [go_sem,fO,dq,t_,dy,cy,cK (fO _),cK (dq _),cK (dy _),cK (cy _)]
      ·simp only at h;subst h;have hsc:=sn (by decide);have vj:=oN n W yv (by rw [hsc]);rw [hsc] at vj hF;rw [if_pos rfl] at hF;refine aG.go 1000 ?_;simp only [go_sem];refine ⟨⟨(n,z2),vj,hF⟩,[(3,7),(7,3)],iz rfl ?_,by simp only;omega⟩;unfold lb;simp only [go_sem,fO,dq,t_,dy,cy,cK (fO _),cK (dq _),cK (dy _),cK (cy _)]
     ·have gx:=Yuy g es W Hs hl k1 (by omega);have sR:=Yvi es W;have ow:(ml es W).1=0→dE ((cP g es).drop 3) W=dE (cP g es) W:=fun h=>by rw [← aN];exact (I_ (Fs:=cP g es) (k:=2) (show 2<4 by decide) h).symm
      have sn:¬ (ml es W).1=0→dE (cP g es) W=ml es W:=fun h=>by rw [← aN];exact Jo (Fs:=cP g es) (k:=2) (show 2<4 by decide) h
      generalize ml es W=z at *
      obtain ⟨z1,z2⟩:=z;unfold ng at sR;simp only [false_and,true_and,false_or,or_false] at sR ow sn;unfold sN;simp only [go_sem,bI,bm,Xt,Xu,Kc,Xr,Xs];refine JV (o:=(some (.var [.aW, .aW, .int .i64 0, .int .i64 0]))) (g:=g) (es:=es) (W:=W) (z:=(z1,z2)) gx ?_ (fun h=>?_) (fun h=>?_)
      ·rcases sR with ⟨rfl,rfl⟩ | rfl
       ·unfold sN;refine aG.go 1000 ?_;simp only [go_sem];refine ⟨⟨3,by omega,ow rfl⟩,?_,by simp only;omega⟩;unfold lb;simp only [go_sem,fO,dq,t_,dy,cy,cK (fO _),cK (dq _),cK (dy _),cK (cy _)]
        all_goals rfl
       ·have hsc:=sn (by decide);have vj:=oN n W yv (by rw [hsc]);rw [hsc] at vj hF;rw [if_pos rfl] at hF;unfold sN;refine aG.go 1000 ?_;simp only [go_sem];refine ⟨⟨(n,z2),vj,hF⟩,[],iz rfl ?_,by simp only;omega⟩;unfold lb;simp only [go_sem,fO,dq,t_,dy,cy,cK (fO _),cK (dq _),cK (dy _),cK (cy _)]
      ·simp only at h;subst h;have hsc:=sn (by decide);have vj:=oN n W yv (by rw [hsc]);rw [hsc] at vj hF;rw [if_pos rfl] at hF;refine aG.go 1000 ?_;simp only [go_sem];refine ⟨⟨(n,z2),vj,hF⟩,[(3,4),(4,3)],iz rfl ?_,by simp only;omega⟩;unfold lb;simp only [go_sem,fO,dq,t_,dy,cy,cK (fO _),cK (dq _),cK (dy _),cK (cy _)]
      ·simp only at h;subst h;have hsc:=sn (by decide);have vj:=oN n W yv (by rw [hsc]);rw [hsc] at vj hF;rw [if_pos rfl] at hF;refine aG.go 1000 ?_;simp only [go_sem];refine ⟨⟨(n,z2),vj,hF⟩,[(3,7),(7,3)],iz rfl ?_,by simp only;omega⟩;unfold lb;simp only [go_sem,fO,dq,t_,dy,cy,cK (fO _),cK (dq _),cK (dy _),cK (cy _)]
     ·have gx:=Ymb g es W Hs hl k1;have sR:=Ymm es W;have ow:(jN es W).1=0→dE ((cP g es).drop 4) W=dE (cP g es) W:=fun h=>by rw [← aN];exact (I_ (Fs:=cP g es) (k:=3) (show 3<4 by decide) h).symm
      have sn:¬ (jN es W).1=0→dE (cP g es) W=jN es W:=fun h=>by rw [← aN];exact Jo (Fs:=cP g es) (k:=3) (show 3<4 by decide) h
      generalize jN es W=z at *
      obtain ⟨z1,z2⟩:=z;unfold ng at sR;simp only [false_and,true_and,false_or,or_false] at sR ow sn;unfold sN;simp only [go_sem,bI,bm,Xt,Xu,Kc,Xr,Xs];refine JV (o:=(some (.var [.aW, .aW, .int .i64 0, .int .i64 0]))) (g:=g) (es:=es) (W:=W) (z:=(z1,z2)) gx ?_ (fun h=>?_) (fun h=>?_)
      ·rcases sR with ⟨rfl,rfl⟩ | rfl
       ·unfold sN;refine aG.go 1000 ?_;simp only [go_sem];refine ⟨⟨4,by omega,ow rfl⟩,?_,by simp only;omega⟩;unfold lb;simp only [go_sem,fO,dq,t_,dy,cy,cK (fO _),cK (dq _),cK (dy _),cK (cy _)]
        all_goals rfl
       ·have hsc:=sn (by decide);have pH:=gR (n+1) W yv (by rw [hsc];simp);rw [hsc] at pH hF;rw [if_neg (by simp)] at hF;simp only at pH hF;unfold sN;refine aG.go 1000 ?_;simp only [go_sem];refine aG.go 1000 ?_;simp only [go_sem];refine aG.go 1000 ?_;unfold mL at hF;by_cases he:z2.e=0
        ·rw [if_neg (by simp [he])] at hF;have gR:=pH he;have DR:=JP z2.d gR.1 gR.2;unfold lb;simp only [go_sem,he];refine aq.bS [] DR (cx _ _ _) ⟨cy _,trivial⟩ ?_;rw [je];simp only [ite_self];refine aG.go 1000 ?_;by_cases hn:(nh z2.d).2=0
         ·rw [if_neg (by simp [hn])] at hF;simp only [go_sem,hn];refine aG.draw [.no, .no, .no, .no, .no, .no, .no, .no, .no, .no, .no, .no, .no, .no,⟨none,[0],[]⟩] 4 4 mixed rfl rfl (by decide) ?_;simp only [go_sem,da,Js,yN];refine aG.go 1000 ?_;simp only [go_sem,yN];subst hF;refine ⟨⟨xa _ _ _,?_,cx _ _ _⟩,rfl⟩;rw [rO rfl rfl];trivial
         ·rw [if_pos hn] at hF;subst hF;simp only [go_sem,hn,Si.aM];exact ⟨rfl,rfl⟩
        ·rw [if_pos he] at hF;subst hF;unfold lb;simp only [go_sem,he];refine aG.go 1000 ?_;simp only [go_sem,he];refine aG.draw [.no,⟨none,[],[0]⟩,⟨none,[],[0]⟩,⟨none,[],[0]⟩,⟨none,[],[0]⟩,⟨none,[0],[]⟩] 4 4 mixed rfl rfl (by decide) ?_;simp only [go_sem,da];refine aG.go 1000 ?_;simp only [go_sem,Si.aM];exact ⟨rfl,rfl⟩
      ·simp only at h;subst h;simp at sR
      ·simp only at h;subst h;simp at sR
     ·have hsc:dE (cP g es) W=(0,W):=aN.symm;have pH:=gR (n+1) W yv (by rw [hsc];simp);rw [hsc] at pH hF;rw [if_neg (by simp)] at hF;simp only at pH hF;unfold mL at hF;by_cases he:W.e=0
      ·rw [if_neg (by simp [he])] at hF;have gR:=pH he;have DR:=JP W.d gR.1 gR.2;unfold sN lb;simp only [go_sem,he,Kc];refine aG.go 1000 ?_;simp only [go_sem,he];refine aG.go 1000 ?_;simp only [go_sem,he];refine aq.bS [] DR (cx _ _ _) ⟨cy _,trivial⟩ ?_;rw [je];simp only [ite_self];refine aG.go 1000 ?_;by_cases hn:(nh W.d).2=0
       ·rw [if_neg (by simp [hn])] at hF;simp only [go_sem,hn];refine aG.draw [.no, .no, .no, .no, .no, .no, .no, .no, .no, .no, .no, .no, .no, .no,⟨none,[0],[]⟩] 4 4 mixed rfl rfl (by decide) ?_;simp only [go_sem,da,Js,yN];refine aG.go 1000 ?_;simp only [go_sem,yN];subst hF;refine ⟨⟨xa _ _ _,?_,cx _ _ _⟩,rfl⟩;rw [rO rfl rfl];trivial
       ·rw [if_pos hn] at hF;subst hF;simp only [go_sem,hn,Si.aM];exact ⟨rfl,rfl⟩
      ·rw [if_pos he] at hF;subst hF;unfold sN lb;simp only [go_sem,he,Kc];refine aG.go 1000 ?_;simp only [go_sem,he];refine aG.go 1000 ?_;simp only [go_sem,he];refine aG.draw [.no,⟨none,[],[0]⟩,⟨none,[],[0]⟩,⟨none,[],[0]⟩,⟨none,[],[0]⟩,⟨none,[0],[]⟩] 4 4 mixed rfl rfl (by decide) ?_;simp only [go_sem,da];refine aG.go 1000 ?_;simp only [go_sem,Si.aM];exact ⟨rfl,rfl⟩
end Go.Proofs
namespace Go.Proofs
open Go Go.dm
theorem Zw3 {es:List (List Li)} {u:Un} (h:u∈cm es):e8 u=false:=by
 unfold cm at h;have:=(qB.1 h).2;simpa using this
theorem Yfl {g:List Sy} {us:List Un} {c:List Li} (h0:(dN g us c).2.2.2=0):(dN g us c).1.length=c.length:=by
 unfold dN lG at h0 ⊢;rcases ET (TT g c) us (cJ c 0) with ⟨f1,_⟩ | ⟨k,hk,x,f1,f2,_⟩
 ·rw [f1]
 ·rw [f1] at h0 ⊢;simp only at h0 ⊢;split at h0
  ·split
   ·unfold lE;split<;>simp
   ·rename_i h1 h2;exact absurd h1 h2
  ·rename_i h1;split
   ·rename_i h2;exact absurd h2 h1
   ·exact absurd h0 (by assumption)
theorem Vn {g:List Sy} {us:List Un}:∀ (n:Nat) (c:List Li) (u:List Int),(eY (dN g us) n c u).2.2=0→(eY (dN g us) n c u).1.length=c.length
 | 0,_,_,h=>by rw [eY] at h;exact absurd h (by decide)
 | n+1,c,u,h=>by
  rw [eY] at h ⊢;split
  ·rename_i h1;rw [if_pos h1] at h;exact absurd h h1
  ·rename_i h1;rw [if_neg h1] at h;split
   ·rfl
   ·rename_i h2;rw [if_neg h2] at h;split
    ·rename_i h3;rw [if_pos h3] at h;exact absurd h (by simp)
    ·rename_i h3;rw [if_neg h3] at h;rw [Vn n _ _ h,Yfl (by simpa using h1)]
theorem Yf1 {g:List Sy} {es:List (List Li)} {c:List Li} (h:(cL g es c).2.2=0):(cL g es c).1.length=c.length:=by
 unfold cL gH at h ⊢;split
 ·rename_i h1;rw [if_pos h1] at h;exact absurd h h1
 ·rename_i h1;rw [if_neg h1] at h;exact Vn _ _ _ h
theorem TX (g:List Sy) (es:List (List Li)) (c:List Li):(cL g es c).2.1.length≤200:=by
 unfold cL gH;split
 ·exact au _
 ·exact Wp _ _ _ _ (au _)
theorem Tc {g:List Sy} {c:List Li} {es:List (List Li)} (hc:aZ g c=0):cQ g (c :: es)=cQ g es:=by
 rw [cQ,if_neg (fun k=>k hc)]
theorem NN {g:List Sy} {es:List (List Li)} {c d:List Li} (h:su es c) (hw:cQ g (c :: es)=0) (hd:iN g d):su es d∧cQ g (d :: es)=0:=by
 have h1:=EV hw c (by simp);refine ⟨⟨h.1,fun x hx=>?_⟩,by rw [Tc hd.1,← Tc h1];exact hw⟩;rcases aQ.1 hx with rfl | hx
 ·refine ⟨fun i hi=>?_,hd.2⟩;obtain ⟨a1,a2⟩:=uE hd (aC hi);have b1:=(p5 a1).2;have b2:=(p5 a2).2;exact ⟨by omega,by omega⟩
 ·exact h.2 x (by simp [hx])
theorem GX {g:List Sy} {d:List Li} (hd:iN g d):l6 d:=by
 obtain ⟨_,h2,_⟩:=w8 hd.1;refine ⟨fun l hl=>?_,by omega⟩;obtain ⟨a1,a2⟩:=uE hd hl;have b1:=p5 a1;have b2:=p5 a2;exact ⟨⟨b1.1,by have:=b1.2;omega⟩,b2.1,by have:=b2.2;omega⟩
theorem W6 {m:Nat}:∀ {c:List Li},(∀ l∈c,l.l.size≤m∧l.r.size≤m)→Tm.bG (ck c)≤c.length*(2*m)
 | [],_=>by simp [ck,Tm.bG]
 | l :: c,h=>by
  obtain ⟨a1,a2⟩:=h l (by simp);have ih:=W6 (c:=c) fun x hx=>h x (by simp [hx]);rw [show ck (l :: c)=l.l :: l.r :: ck c from rfl,Tm.bG,Tm.bG,ax,Nat.succ_mul]
  omega
theorem Ypr {g:List Sy} {d:List Li} (hd:iN g d):Tm.bG (ck d)<99999999:=by
 obtain ⟨_,h2,_⟩:=w8 hd.1;have h:=W6 (m:=400) (c:=d) fun l hl=>by
  obtain ⟨a1,a2⟩:=uE hd hl;exact ⟨(p5 a1).2,(p5 a2).2⟩
 have:d.length*(2*400)≤32*(2*400):=bf _ h2;omega
theorem Ct {g:List Sy} {es:List (List Li)} {c:List Li} (h:su es c) (hw:cQ g (c :: es)=0):∀ x∈es,iN g x:=fun x hx=>⟨EV hw x (by simp [hx]),(h.2 x (by simp [hx])).2⟩
noncomputable def Im (g:List Sy) (es:List (List Li)) (W:Wk):Nat:=2*W.d.length + @ite _ (calm g (cm es) W.d) (Classical.propDecidable _) 0 1
structure IW (g:List Sy) (es:List (List Li)) (n:Nat) (W:Wk):Prop where
 rt:iN g W.d
 e:W.e=0
 gone:W.gone=0
 sJ:W.sJ = -1
 tidy:p0 W.d
 nodup:W.u.Nodup
 rows:∀ k∈W.u,0≤k∧k<es.length
 len:W.u.length+201*n≤201*70
 mu:Im g es W<n
theorem Yrk (g:List Sy) (es:List (List Li)) (W:Wk):dE (cP g es) W=if (iw W).1≠0 then iw W else if (j4 g es W).1≠0 then j4 g es W else if (ml es W).1≠0 then ml es W else if (jN es W).1≠0 then jN es W else (0,W):=by
 simp only [cP,dE,ite_not,ne_eq]
theorem Gi (g:List Sy) (es:List (List Li)) (W:Wk) :
  (kS W.d=true∧dE (cP g es) W=(2,{ W with gone:=1 })) ∨
  (kS W.d=false∧(cL g es W.d).2.2≠0∧dE (cP g es) W=(2,{ W with e:=(cL g es W.d).2.2 })) ∨
  (kS W.d=false∧(cL g es W.d).2.2=0∧(cL g es W.d).2.1≠[]∧dE (cP g es) W=(1,iW (cL g es W.d).2.1 { W with d:=iK (cL g es W.d).1 })) ∨
  (kS W.d=false∧(cL g es W.d).2.2=0∧(cL g es W.d).2.1=[]∧∃ x,nu 0 es W.d=some x∧dE (cP g es) W=(1,kE (x.1:Int) { W with d:=W.d.eraseIdx x.2 })) ∨
  (kS W.d=false∧(cL g es W.d).2.2=0∧(cL g es W.d).2.1=[]∧nu 0 es W.d=none∧∃ k,kB 0 es W.d=some k∧dE (cP g es) W=(2,{ W with gone:=2,sJ:=(k:Int) })) ∨
  (kS W.d=false∧(cL g es W.d).2.2=0∧(cL g es W.d).2.1=[]∧nu 0 es W.d=none∧kB 0 es W.d=none∧dE (cP g es) W=(0,W)):=by
 rw [Yrk];cases h1:kS W.d
 ·have e1:iw W=(0,W):=by unfold iw;rw [h1];rfl
  rw [e1,if_neg (fun k=>k rfl)];by_cases h2:(cL g es W.d).2.2=0
  ·by_cases h3:(cL g es W.d).2.1=[]
   ·have e2:j4 g es W=(0,W):=by unfold j4;rw [if_neg (fun k=>k h2),if_pos h3]
    rw [e2,if_neg (fun k=>k rfl)];cases h4:nu 0 es W.d with
    | some x =>
     have e3:ml es W=(1,kE (x.1:Int) { W with d:=W.d.eraseIdx x.2 }):=by unfold ml;rw [h4]
     rw [e3,if_pos (by simp)];exact .inr (.inr (.inr (.inl ⟨rfl,h2,h3,x,rfl,rfl⟩)))
    | none =>
     have e3:ml es W=(0,W):=by unfold ml;rw [h4]
     rw [e3,if_neg (fun k=>k rfl)];cases h5:kB 0 es W.d with
     | some k =>
      have e4:jN es W=(2,{ W with gone:=2,sJ:=(k:Int) }):=by unfold jN;rw [h5]
      rw [e4,if_pos (by simp)];exact .inr (.inr (.inr (.inr (.inl ⟨rfl,h2,h3,rfl,k,rfl,rfl⟩))))
     | none =>
      have e4:jN es W=(0,W):=by unfold jN;rw [h5]
      rw [e4,if_neg (fun k=>k rfl)];exact .inr (.inr (.inr (.inr (.inr ⟨rfl,h2,h3,rfl,rfl,rfl⟩))))
   ·have e2:j4 g es W=(1,iW (cL g es W.d).2.1 { W with d:=iK (cL g es W.d).1 }):=by unfold j4;rw [if_neg (fun k=>k h2),if_neg h3]
    rw [e2,if_pos (by simp)];exact .inr (.inr (.inl ⟨rfl,h2,h3,rfl⟩))
  ·have e2:j4 g es W=(2,{ W with e:=(cL g es W.d).2.2 }):=by unfold j4;rw [if_pos h2]
   rw [e2,if_pos (by simp)];exact .inr (.inl ⟨rfl,h2,rfl⟩)
 ·have e1:iw W=(2,{ W with gone:=1 }):=by unfold iw;rw [h1];rfl
  rw [e1,if_pos (by simp)];exact .inl ⟨rfl,rfl⟩
theorem UC:∀ (es:List (List Li)) (i:Nat), ∀ u∈kJ es i,(i:Int)≤u.off∧u.off<i+es.length
 | [],_,u,h=>by rw [kJ] at h;cases h
 | c :: es,i,u,h=>by
  rw [kJ] at h;rcases aY.1 h with h | h
  ·unfold wi at h;split at h
   ·split at h
    ·cases h
    ·simp only [aQ,dW,or_false] at h;rcases h with rfl | rfl<;>simp only [ax]<;>omega
   ·cases h
  ·have:=UC es (i+1) u h;simp only [ax];omega
theorem Zva {es:List (List Li)} {u:Un} (h:u∈cm es) : 0≤u.off∧u.off<es.length:=by
 unfold cm at h;have:=UC es 0 u (qB.1 h).1;omega
theorem Ye3 {g:List Sy} {us:List Un} {c:List Li} (h0:(dN g us c).2.2.2=0) (h1:¬ (dN g us c).2.2.1=false):∃ u∈us,(dN g us c).2.1=u.off:=by
 unfold dN lG at h0 h1 ⊢;rcases ET (TT g c) us (cJ c 0) with ⟨f1,_⟩ | ⟨k,hk,x,f1,f2,_⟩
 ·rw [f1] at h1;exact absurd rfl h1
 ·rw [f1] at h0 h1 ⊢;simp only at h0 h1 ⊢;split at h0
  ·rename_i h2;rw [if_pos h2];exact ⟨x.1,(I2 f2).1,rfl⟩
  ·rename_i h2;exact absurd h0 (by simpa using h2)
theorem Vg {g:List Sy} {us:List Un} {P:Int→Prop} (hP:∀ u∈us,P u.off):∀ (n:Nat) (c:List Li) (l:List Int),(∀ k∈l,P k)→∀ k∈(eY (dN g us) n c l).2.1,P k
 | 0,c,l,_=>by rw [eY];intro k hk;cases hk
 | n+1,c,l,h=>by
  rw [eY];split
  ·intro k hk;cases hk
  ·rename_i h1;split
   ·exact h
   ·rename_i h2;split
    ·intro k hk;cases hk
    ·refine Vg hP n _ _ fun k hk=>?_;rcases aY.1 hk with hk | hk
     ·exact h k hk
     ·obtain ⟨u,hu,e⟩:=Ye3 (by simpa using h1) h2;rw [aL.1 hk,e];exact hP u hu
theorem Yh1 {g:List Sy} {es:List (List Li)} {c:List Li}:∀ k∈(cL g es c).2.1,0≤k∧k<es.length:=by
 unfold cL gH;split
 ·intro k hk;cases hk
 ·exact Vg (fun u hu=>Zva hu) _ _ _ (fun k hk=>by cases hk)
theorem WX {k j:Int} {W:Wk}:j∈(kE k W).u↔j∈W.u∨j=k:=by
 unfold kE;split
 ·rename_i h;exact ⟨.inl,fun h2=>h2.elim id fun e=>e ▸ h⟩
 ·simp
theorem Up {k:Int} {W:Wk} (h:W.u.Nodup):(kE k W).u.Nodup:=by
 unfold kE;split
 ·exact h
 ·rename_i hn;simp only
  rw [fU];refine ⟨h,by simp,fun a ha b hb e=>?_⟩;rw [aL.1 hb] at e;exact hn (e ▸ ha)
theorem KQ (k:Int) (W:Wk):(kE k W).d=W.d∧(kE k W).e=W.e∧(kE k W).gone=W.gone∧(kE k W).sJ=W.sJ:=by unfold kE;split<;>exact ⟨rfl,rfl,rfl,rfl⟩
theorem Ux {j:Int}:∀ {l:List Int} {W:Wk},j∈(iW l W).u↔j∈W.u∨j∈l
 | [],W=>by simp [iW]
 | k :: l,W=>by rw [iW,Ux,WX,aQ,or_assoc]
theorem Tv:∀ {l:List Int} {W:Wk},W.u.Nodup→(iW l W).u.Nodup
 | [],W,h=>h
 | k :: l,W,h=>by rw [iW];exact Tv (Up h)
theorem V2:∀ (l:List Int) (W:Wk),(iW l W).u.length≤W.u.length+l.length
 | [],W=>by simp [iW]
 | k :: l,W=>by
  rw [iW];have:=V2 l (kE k W);have:=MK k W;simp only [ax];omega
theorem Nt:∀ (l:List Int) (W:Wk),(iW l W).d=W.d∧(iW l W).e=W.e∧(iW l W).gone=W.gone∧(iW l W).sJ=W.sJ
 | [],W=>⟨rfl,rfl,rfl,rfl⟩
 | k :: l,W=>by
  rw [iW];obtain ⟨a1,a2,a3,a4⟩:=Nt l (kE k W);obtain ⟨b1,b2,b3,b4⟩:=KQ k W;exact ⟨a1.trans b1,a2.trans b2,a3.trans b3,a4.trans b4⟩
theorem Mh:∀ {es:List (List Li)} {k:Nat} {d:List Li} {x:Nat×Nat},nu k es d=some x→∃ (i:Nat) (h:i<es.length),x.1=k+i∧(oi es[i] d).2.2=0∧(oi es[i] d).2.1=true∧(oi es[i] d).1=(x.2:Int)∧x.2<d.length
 | [],_,_,_,h=>by rw [nu] at h;cases h
 | c :: es,k,d,x,h=>by
  rw [nu] at h;split at h
  ·rename_i hc;obtain ⟨i,e,hi⟩:=RX hc;cases h;refine ⟨0,by simp,rfl,hc.1,hc.2,?_,?_⟩
   ·simp only [ez];rw [e];rfl
   ·simp only;rw [e];exact hi
  ·obtain ⟨i,hi,h1,h2⟩:=Mh h;exact ⟨i+1,by simp;omega,by omega,by simpa using h2⟩
theorem Uu:∀ {es:List (List Li)} {k:Nat} {d:List Li} {x:Nat},kB k es d=some x→∃ (i:Nat) (h:i<es.length),x=k+i∧(nk es[i] d).2=0∧(nk es[i] d).1=true∧∀ j (hj:j<i), ¬ ((nk es[j] d).2=0∧(nk es[j] d).1=true)
 | [],_,_,_,h=>by rw [kB] at h;cases h
 | c :: es,k,d,x,h=>by
  rw [kB] at h;split at h
  ·rename_i hc;cases h;exact ⟨0,by simp,rfl,hc.1,hc.2,fun j hj=>by omega⟩
  ·rename_i hc;obtain ⟨i,hi,h1,h2,h3,h4⟩:=Uu h;refine ⟨i+1,by simp;omega,by omega,by simpa using h2,by simpa using h3,fun j hj=>?_⟩;cases j with
   | zero=>simpa using hc
   | succ j=>simpa using h4 j (by omega)
theorem JW {g:List Sy} {es:List (List Li)} {W:Wk} (h:calm g (cm es) W.d):Im g es W=2*W.d.length:=by unfold Im;rw [if_pos h];rfl
theorem Sv {g:List Sy} {es:List (List Li)} {W:Wk} (h:¬ calm g (cm es) W.d):Im g es W=2*W.d.length+1:=by unfold Im;rw [if_neg h]
theorem Nq {g:List Sy} {es:List (List Li)} {c:List Li} (h:su es c) (hw:cQ g (c :: es)=0) {n:Nat} {W:Wk} (hI:IW g es (n+1) W) (h1:(dE (cP g es) W).1=1):IW g es n (dE (cP g es) W).2:=by
 obtain ⟨fD,Eu⟩:=NN h hw hI.rt;have hu:∀ u∈cm es,e8 u=false∧jd g u.l∧jd g u.r:=fun u hu=>⟨Zw3 hu,TJ (g:=g) (fun x hx=>(Ct h hw x hx).1) (fun x hx=>(Ct h hw x hx).2) hu⟩;have HZ:=hI.mu;have hlen:=hI.len;rcases Gi g es W with ⟨_,e⟩ | ⟨_,_,e⟩ | ⟨_,h2,h3,e⟩ | ⟨_,h2,h3,x,h4,e⟩ | ⟨_,_,_,_,k,_,e⟩ | ⟨_,_,_,_,_,e⟩
 ·rw [e] at h1;exact absurd h1 (by simp)
 ·rw [e] at h1;exact absurd h1 (by simp)
 ·rw [e];have FG:¬ calm g (cm es) W.d:=fun k=>h3 ((Mv Eu).1 k).2;have hn:=Yif fD h2;have Ay:=(JF fD h2).2.1;have vA:=Q6 Ay;have y_:=Wj (WD _) Ay vA hu hn;have hl:=Yf1 h2;have Yf:=Wi (cL g es W.d).1;have zx:=TX g es W.d;have ya:=V2 (cL g es W.d).2.1 { W with d:=iK (cL g es W.d).1 };obtain ⟨d1,d2,d3,d4⟩:=Nt (cL g es W.d).2.1 { W with d:=iK (cL g es W.d).1 };have ph:=Tv (l:=(cL g es W.d).2.1) (W:={ W with d:=iK (cL g es W.d).1 }) hI.nodup;have jX:=fun j=>Ux (j:=j) (l:=(cL g es W.d).2.1) (W:={ W with d:=iK (cL g es W.d).1 });rw [Sv FG] at HZ;simp only at d1 d2 d3 d4 ya ⊢;generalize iW (cL g es W.d).2.1 { W with d:=iK (cL g es W.d).1 }=X at *
  refine ⟨by rw [d1];exact vA,by rw [d2];exact hI.e,by rw [d3];exact hI.gone,by rw [d4];exact hI.sJ,by rw [d1];exact Vz _,ph,fun k hk=>?_,by omega,?_⟩
  ·rcases (jX k).1 hk with hk | hk
   ·exact hI.rows k hk
   ·exact Yh1 k hk
  ·rw [JW (by rw [d1];exact y_),d1];omega
 ·rw [e];have FG:calm g (cm es) W.d:=(Mv Eu).2 ⟨h2,h3⟩;obtain ⟨i,hi,q1,q2,q3,q4,q5⟩:=Mh h4;have vA:=Yok x.2 hI.rt;have y_:=Wj (VP W.d x.2) hI.rt vA hu FG;have hl:(W.d.eraseIdx x.2).length=W.d.length - 1:=nB q5;obtain ⟨d1,d2,d3,d4⟩:=KQ (x.1:Int) { W with d:=W.d.eraseIdx x.2 };have ya:=MK (x.1:Int) { W with d:=W.d.eraseIdx x.2 };have ph:=Up (k:=(x.1:Int)) (W:={ W with d:=W.d.eraseIdx x.2 }) hI.nodup;have jX:=fun j=>WX (k:=(x.1:Int)) (j:=j) (W:={ W with d:=W.d.eraseIdx x.2 });rw [JW FG] at HZ;simp only at d1 d2 d3 d4 ya ⊢;generalize kE (x.1:Int) { W with d:=W.d.eraseIdx x.2 }=X at *
  refine ⟨by rw [d1];exact vA,by rw [d2];exact hI.e,by rw [d3];exact hI.gone,by rw [d4];exact hI.sJ,by rw [d1];exact Us _ hI.tidy,ph,fun k hk=>?_,by omega,?_⟩
  ·rcases (jX k).1 hk with hk | rfl
   ·exact hI.rows k hk
   ·omega
  ·rw [JW (by rw [d1];exact y_),d1];omega
 ·rw [e] at h1;exact absurd h1 (by simp)
 ·rw [e] at h1;exact absurd h1 (by simp)
theorem AX {g:List Sy} {es:List (List Li)} {c:List Li} (h:su es c) (hw:cQ g (c :: es)=0):IW g es 70 (xB c):=by
 have Ay:iN g c:=⟨EV hw c (by simp),(h.2 c (by simp)).2⟩;have vA:=Q6 Ay;refine ⟨vA,rfl,rfl,rfl,Vz c,iF,fun k hk=>(by cases hk),by simp [xB],?_⟩;have hl:=(w8 vA.1).2.1;have hd:(xB c).d=iK c:=rfl;by_cases hc:calm g (cm es) (xB c).d
 ·rw [JW hc,hd];omega
 ·rw [Sv hc,hd];omega
theorem KY {g:List Sy} {es:List (List Li)} {W:Wk} (h:(dE (cP g es) W).1≠1):(dE (cP g es) W).2.d=W.d:=by
 rcases Gi g es W with ⟨_,e⟩ | ⟨_,_,e⟩ | ⟨_,h2,h3,e⟩ | ⟨_,h2,h3,x,h4,e⟩ | ⟨_,_,_,_,k,_,e⟩ | ⟨_,_,_,_,_,e⟩
 ·rw [e]
 ·rw [e]
 ·rw [e] at h;exact absurd rfl h
 ·rw [e] at h;exact absurd rfl h
 ·rw [e]
 ·rw [e]
theorem NS (g:List Sy) (es:List (List Li)) (c:List Li) (h:su es c) :
  aD Tryz.prog 9 [.ps 4 (syms g), .ps 1 (dp es), .ps 5 (lits c)] (.dT [(iJ g es c).1.aM, .int .i64 (iJ g es c).2]):=by
 have hl:=h.1;have Ay:=fun hw:cQ g (c :: es)=0=>(⟨EV hw c (by simp),(h.2 c (by simp)).2⟩:iN g c);refine Zg g es c (fun n W=>cQ g (c :: es)=0∧IW g es n W) (fun x hx=>(h.2 x hx).1) (fun hw=>GX (Ay hw)) (by omega) (fun hw x hx=>GX (Ct h hw x hx)) (fun hw=>⟨hw,AX h hw⟩) ?_ ?_ ?_
 ·rintro n W ⟨hw,hI⟩;obtain ⟨fD,Eu⟩:=NN h hw hI.rt;have HZ:=hI.mu;have hlen:=hI.len;have zx:=TX g es W.d;exact ⟨⟨n - 1,by omega⟩,GX hI.rt,fD,fun h2=>GX (JF fD h2).2.1,by omega⟩
 ·rintro n W ⟨hw,hI⟩ h1;exact ⟨hw,Nq h hw hI h1⟩
 ·rintro n W ⟨hw,hI⟩ h1 _;rw [KY h1];exact ⟨GX hI.rt,Ypr hI.rt⟩
theorem MU {g:List Sy} {es:List (List Li)} {c:List Li} (h:su es c) (hw:cQ g (c :: es)=0):∀ (n:Nat) (W:Wk),IW g es n W→∃ (m:Nat) (X:Wk),IW g es m X∧(dE (cP g es) X).1≠1∧rV g es n W=(dE (cP g es) X).2
 | 0,W,hI=>absurd hI.mu (by omega)
 | n+1,W,hI=>by
  rw [rV];split
  ·rename_i h1;exact MU h hw n _ (Nq h hw hI h1)
  ·rename_i h1;exact ⟨n+1,W,hI,h1,rfl⟩
theorem Qt {g:List Sy} {es:List (List Li)} {c:List Li} (h:su es c) (hw:cQ g (c :: es)=0) {P:Wk→Prop} (hP:∀ n W,IW g es (n+1) W→P W→(dE (cP g es) W).1=1→P (dE (cP g es) W).2):∀ (n:Nat) (W:Wk),IW g es n W→P W→∃ (m:Nat) (X:Wk),IW g es m X∧P X∧(dE (cP g es) X).1≠1∧rV g es n W=(dE (cP g es) X).2
 | 0,W,hI,_=>absurd hI.mu (by omega)
 | n+1,W,hI,hp=>by
  rw [rV];split
  ·rename_i h1;exact Qt h hw hP n _ (Nq h hw hI h1) (hP n W hI hp h1)
  ·rename_i h1;exact ⟨n+1,W,hI,hp,h1,rfl⟩
theorem R6 {g:List Sy} {d:List Li} (hd:iN g d):(d.any rj)=false:=by
 rw [← dw,bV];rintro ⟨l,hl,ho⟩;obtain ⟨a1,a2⟩:=uE hd hl;unfold rj at ho;simp [(mg a1.1).1,(mg a2.1).1] at ho
theorem VX {g:List Sy} {c d:List Li} (hc:iN g c) (hd:iN g d):jS c d=0:=by
 have h1:=(w8 hc.1).2.1;have h2:=(w8 hd.1).2.1;unfold jS;rw [if_neg (by omega),R6 hc,R6 hd];rfl
theorem Ygo {g:List Sy} {d:List Li} (hd:iN g d):jc (ck d)=false:=by
 rw [← dw];unfold jc;rw [bV];rintro ⟨t,ht,ho⟩;unfold ck at ht;rw [pz] at ht;obtain ⟨l,hl,ht⟩:=ht;obtain ⟨a1,a2⟩:=uE hd hl;simp only [aQ,dW,or_false] at ht;rcases ht with rfl | rfl
 ·simp [(mg a1.1).1] at ho
 ·simp [(mg a2.1).1] at ho
theorem Wx {g:List Sy} {d:List Li} (hd:iN g d):nh d=(qp d,0):=by unfold nh;rw [Ygo hd];rfl
theorem Ykl {g:List Sy} {c d:List Li} (hc:iN g c) (hd:iN g d):nk c d=(sG c d,0):=by unfold nk;rw [if_neg (by simp [VX hc hd])]
theorem Ybx {g:List Sy} {es:List (List Li)} {c:List Li} (h:su es c) :
  (cQ g (c :: es)≠0∧iJ g es c=(⟨[],[],0,0⟩,cQ g (c :: es))) ∨
  (cQ g (c :: es)=0∧∃ (n:Nat) (X:Wk),IW g es n X ∧
   ((kS X.d=true∧iJ g es c=(⟨qp X.d,X.u,1, -1⟩,0)) ∨
    (kS X.d=false∧(cL g es X.d).2.2≠0∧iJ g es c=(⟨[],[],0,0⟩,(cL g es X.d).2.2)) ∨
    (kS X.d=false∧(cL g es X.d).2.2=0∧(cL g es X.d).2.1=[]∧nu 0 es X.d=none∧∃ k,kB 0 es X.d=some k∧iJ g es c=(⟨qp X.d,X.u,2,(k:Int)⟩,0)) ∨
    (kS X.d=false∧(cL g es X.d).2.2=0∧(cL g es X.d).2.1=[]∧nu 0 es X.d=none∧kB 0 es X.d=none∧iJ g es c=(⟨qp X.d,X.u,0, -1⟩,0)))):=by
 by_cases hw:cQ g (c :: es)=0
 case neg=>exact .inl ⟨hw,by unfold iJ;rw [if_pos hw]⟩
 refine .inr ⟨hw,?_⟩;obtain ⟨n,X,hI,h1,e⟩:=MU h hw 70 (xB c) (AX h hw);have hF:iJ g es c=mL (dE (cP g es) X).2:=by unfold iJ;rw [if_neg (by simp [hw]),e]
 have hN:=Wx hI.rt;refine ⟨n,X,hI,?_⟩;rw [hF];rcases Gi g es X with ⟨q1,e⟩ | ⟨q1,q2,e⟩ | ⟨_,h2,h3,e⟩ | ⟨_,h2,h3,x,h4,e⟩ | ⟨q1,q2,q3,q4,k,q5,e⟩ | ⟨q1,q2,q3,q4,q5,e⟩
 ·refine .inl ⟨q1,?_⟩;rw [e];unfold mL;simp only [hI.e,hN,hI.sJ];rfl
 ·refine .inr (.inl ⟨q1,q2,?_⟩);rw [e];unfold mL;simp only
  rw [if_pos q2]
 ·rw [e] at h1;exact absurd rfl h1
 ·rw [e] at h1;exact absurd rfl h1
 ·refine .inr (.inr (.inl ⟨q1,q2,q3,q4,k,q5,?_⟩));rw [e];unfold mL;simp only [hI.e,hN];rfl
 ·refine .inr (.inr (.inr ⟨q1,q2,q3,q4,q5,?_⟩));rw [e];unfold mL;simp only [hI.e,hN,hI.sJ,hI.gone];rfl
section
variable {r:Int→Int} {p:Int→Prop}
end
theorem WW:∀ (n:Nat) (l:List Int),l.Nodup→(∀ v∈l,0≤v∧v<n)→l.length≤n
 | 0,l,_,h=>by
  cases l with
  | nil=>exact ae _
  | cons a l=>have:=h a (by simp);omega
 | n+1,l,hn,h=>by
  have h1:=WW n (l.erase (n:Int)) (hn.erase _) (fun v hv=>by
   rw [hn.mem_erase_iff] at hv;have:=h v hv.2;have:=hv.1;omega)
  have h2:l.length≤(l.erase (n:Int)).length+1:=by
   rw [List.length_erase];split<;>omega
  omega
theorem Yn1 (S:List Int) (v:Int):∃ l,lD S v=S++l:=by
 unfold lD;split
 ·exact ⟨[],by simp⟩
 ·exact ⟨[v],rfl⟩
theorem Wt (S:List Int) (v w:Int):w∈lD S v↔w∈S∨w=v:=by
 unfold lD;split
 ·rename_i h;exact ⟨.inl,fun h2=>h2.elim id fun e=>e ▸ h⟩
 ·simp
theorem Yc8 {S:List Int} (v:Int) (h:S.Nodup):(lD S v).Nodup:=by
 unfold lD;split
 ·exact h
 ·rename_i hn;rw [fU];refine ⟨h,by simp,fun a ha b hb e=>?_⟩;rw [aL.1 hb] at e;exact hn (e ▸ ha)
theorem Yt9 {S l:List Int} {v:Int} (h:v∈S):(S++l).idxOf v=S.idxOf v:=by rw [List.idxOf_append,if_pos h]
mutual
theorem Yv4:∀ (t:Tm) (S:List Int), ∃ l,(t.num S).2=S++l
 | .mk h ts,S=>by
  rw [Tm.num];split
  ·exact Yn1 S _
  ·exact MH ts S
theorem MH:∀ (ts:List Tm) (S:List Int), ∃ l,(Tm.gM ts S).2=S++l
 | [],S=>⟨[],by simp [Tm.gM]⟩
 | t :: ts,S=>by
  rw [Tm.gM];obtain ⟨l,hl⟩:=Yv4 t S;obtain ⟨m,hm⟩:=MH ts (t.num S).2;exact ⟨l++m,by simp only;rw [hm,hl,cU]⟩
end
mutual
theorem Yim:∀ (t:Tm) (S:List Int),S.Nodup→(t.num S).2.Nodup
 | .mk h ts,S,hn=>by
  rw [Tm.num];split
  ·exact Yc8 _ hn
  ·exact LP ts S hn
theorem LP:∀ (ts:List Tm) (S:List Int),S.Nodup→(Tm.gM ts S).2.Nodup
 | [],S,hn=>by rw [Tm.gM];exact hn
 | t :: ts,S,hn=>by rw [Tm.gM];exact LP ts _ (Yim t S hn)
end
mutual
theorem Ysz {P:Int→Prop}:∀ (t:Tm) (S:List Int),(∀ v∈S,P v)→t.dY P→∀ v∈(t.num S).2,P v
 | .mk h ts,S,hS,ht=>by
  rw [Tm.dY] at ht;rw [Tm.num];split
  ·rename_i fX;intro v hv;rcases (Wt S _ v).1 hv with hv | rfl
   ·exact hS v hv
   ·exact ht.1 fX
  ·exact M8 ts S hS ht.2
theorem M8 {P:Int→Prop}:∀ (ts:List Tm) (S:List Int),(∀ v∈S,P v)→Tm.fm P ts→∀ v∈(Tm.gM ts S).2,P v
 | [],S,hS,_=>by rw [Tm.gM];exact hS
 | t :: ts,S,hS,ht=>by rw [Tm.fm] at ht;rw [Tm.gM];exact M8 ts _ (Ysz t S hS ht.1) ht.2
end
mutual
theorem Yys:∀ (t:Tm) (S:List Int) (T:List Int),t.good=true→(∃ l,T=(t.num S).2++l)→(t.num S).1=t.rn (fun v=>(T.idxOf v:Int))∧t.dY (· ∈ T)
 | .mk h ts,S,T,hg,⟨l,hT⟩=>by
  by_cases fX:h<0
  ·rw [Tm.num,if_pos fX] at hT ⊢;have hm:(-1 - h)∈lD S (-1 - h):=(Wt S _ _).2 (.inr rfl);have ha:=TW hg fX;simp only [Tm.args] at ha;subst ha;refine ⟨?_,?_⟩
   ·rw [KU (t:=.mk h []) fX];show Tm.mk _ []=Tm.mk _ [];rw [show (Tm.mk h []).head=h from rfl,hT,Yt9 hm]
   ·rw [Tm.dY];exact ⟨fun _=>by rw [hT];exact ia _ hm,trivial⟩
  ·rw [Tm.num,if_neg fX] at hT ⊢;obtain ⟨a1,a2⟩:=Np ts S T (yM hg) ⟨l,hT⟩;refine ⟨?_,?_⟩
   ·rw [KW (t:=.mk h ts) fX];show Tm.mk _ _=Tm.mk _ _;rw [a1];rfl
   ·rw [Tm.dY];exact ⟨fun k=>absurd k fX,a2⟩
theorem Np:∀ (ts:List Tm) (S:List Int) (T:List Int),(∀ t∈ts,t.good=true)→(∃ l,T=(Tm.gM ts S).2++l)→(Tm.gM ts S).1=ts.map (Tm.rn fun v=>(T.idxOf v:Int))∧Tm.fm (· ∈ T) ts
 | [],S,T,_,_=>⟨by rw [Tm.gM];rfl,trivial⟩
 | t :: ts,S,T,hg,⟨l,hT⟩=>by
  rw [Tm.gM] at hT ⊢;simp only at hT ⊢;obtain ⟨m,hm⟩:=MH ts (t.num S).2;obtain ⟨a1,a2⟩:=Yys t S T (hg t (by simp)) ⟨m++l,by rw [hT,hm,cU]⟩;obtain ⟨b1,b2⟩:=Np ts (t.num S).2 T (fun x hx=>hg x (by simp [hx])) ⟨l,hT⟩;exact ⟨by rw [a1,b1];rfl,by rw [Tm.fm];exact ⟨a2,b2⟩⟩
end
def oQ (c:List Li):List Int:=(Tm.gM (ck c) []).2
def wW (c:List Li):Int→Int:=fun v=>((oQ c).idxOf v:Int)
theorem QS (r:Int→Int):∀ c:List Li,yC c ((ck c).map (Tm.rn r))=AO r c
 | []=>rfl
 | l :: c=>by
  rw [show ck (l :: c)=l.l :: l.r :: ck c from rfl,aK,aK,yC,QS r c];rfl
mutual
theorem Ybo:∀ t:Tm,t.good=true→t.dY fun v=>0≤v∧v<256
 | .mk h ts,hg=>by
  rw [Tm.dY];have:=(yO hg).1;simp only [Tm.head] at this;exact ⟨fun hn=>by omega,Ly ts (yM hg)⟩
theorem Ly:∀ ts:List Tm,(∀ t∈ts,t.good=true)→Tm.fm (fun v=>0≤v∧v<256) ts
 | [],_=>trivial
 | t :: ts,h=>⟨Ybo t (h t (by simp)),Ly ts fun x hx=>h x (by simp [hx])⟩
end
theorem Ybt {g:List Sy} {d:List Li} (hd:iN g d):∀ t∈ck d,t.good=true:=fun t ht=>by
 unfold ck at ht;rw [pz] at ht;obtain ⟨l,hl,ht⟩:=ht;obtain ⟨a1,a2⟩:=uE hd hl;simp only [aQ,dW,or_false] at ht;rcases ht with rfl | rfl
 ·exact (ru (mg a1.1).1).2.2
 ·exact (ru (mg a2.1).1).2.2
theorem Ycj {p:Int→Prop} {d:List Li} (h:Tm.fm p (ck d)):rQ p d:=fun l hl=>by
 rw [Gr] at h;have hm:∀ t∈[l.l,l.r],t∈ck d:=fun t ht=>by
  unfold ck;rw [pz];exact ⟨l,hl,ht⟩
 exact ⟨h _ (hm _ (by simp)),h _ (hm _ (by simp))⟩
theorem Sl {g:List Sy} {d:List Li} (hd:iN g d):qQ (wW d) (· ∈ oQ d)∧rQ (· ∈ oQ d) d∧qp d=AO (wW d) d:=by
 have hg:=Ybt hd;obtain ⟨h1,h2⟩:=Np (ck d) [] (oQ d) hg ⟨[],by simp [oQ]⟩;have ph:(oQ d).Nodup:=LP (ck d) [] iF;have hv:∀ v∈oQ d,0≤v∧v<256:=M8 (P:=fun v=>0≤v∧v<256) (ck d) [] (fun v hv=>by cases hv) (Ly _ hg);have hlen:=WW 256 _ ph (by simpa using hv);refine ⟨⟨fun v w hv hw e=>?_,fun v hv=>?_,fun v h=>(hv v h).1⟩,Ycj h2,?_⟩
 ·unfold wW at e;have e2:(oQ d).idxOf v=(oQ d).idxOf w:=by omega
  have l1:=gB hv;have l2:=gB hw;have g1:=List.getElem_idxOf l1;have g2:=List.getElem_idxOf l2;rw [← g1,← g2];simp only [e2]
 ·have:=gB hv;unfold wW;omega
 ·unfold qp;rw [h1,QS];rfl
section
variable {r:Int→Int} {p:Int→Prop}
theorem Yd3 {α:Type} {l:List α} {f g : α→Bool} (h:∀ x∈l,f x=g x):l.any f=l.any g:=by
 induction l with
 | nil=>rfl
 | cons a l ih=>rw [dC,dC,h a (by simp),ih fun x hx=>h x (by simp [hx])]
end
end Go.Proofs
namespace Go.Proofs
open Go Go.dm
attribute [local go_sem] Nat.reduceAdd Nat.reduceSub Nat.reduceMul Nat.reduceLeDiff Nat.reduceEqDiff Nat.reduceBEq Nat.reduceLT Nat.le_refl Int.natCast_zero Nat.sub_zero List.length_map Int.toNat_natCast Int.natCast_one Int.reduceEq Int.reduceLT Int.reduceLE Int.reduceNe Int.sub_zero Int.zero_add Int.toNat_one
def mJ (s:Int):List Int→Int→Int→Int
 | [],_,_=>0
 | x :: xs,n,v=>if v=x then n % s else mJ s xs (n / s) v
theorem LN {s:Int} (hs : 1≤s):∀ (vs:List Int) (n v:Int),0≤mJ s vs n v∧mJ s vs n v<s
 | [],n,v=>by rw [mJ];omega
 | x :: xs,n,v=>by
  rw [mJ];split
  ·exact ⟨Int.emod_nonneg _ (by omega),Int.emod_lt_of_pos _ (by omega)⟩
  ·exact LN hs xs _ v
theorem QZ {s:Int} (hs : 1≤s) (f:Int→Int) (hf:∀ v,0≤f v∧f v<s):∀ vs:List Int,vs.Nodup→∃ n:Int,0≤n∧n<s ^ vs.length∧∀ v∈vs,mJ s vs n v=f v
 | [],_=>⟨0,by simp,by simp,fun v h=>by cases h⟩
 | x :: xs,hn=>by
  rw [eT] at hn;obtain ⟨m,h1,h2,h3⟩:=QZ hs f hf xs hn.2;obtain ⟨f1,f2⟩:=hf x;have e1:(f x+s*m) % s=f x:=by rw [Int.add_mul_emod_self_left];exact Int.emod_eq_of_lt f1 f2
  have e2:(f x+s*m) / s=m:=by rw [Int.add_mul_ediv_left _ _ (by omega:s≠0),Int.ediv_eq_zero_of_lt f1 f2];omega
  have h4 : 0≤s*m:=rJ (by omega) h1;have h5:s*(m+1)≤s*s ^ xs.length:=du (by omega) (by omega);have h6:s*(m+1)=s*m+s:=by rw [Int.mul_add,Int.mul_one]
  refine ⟨f x+s*m,by omega,?_,fun v hv=>?_⟩
  ·have e:s ^ (xs.length+1)=s*s ^ xs.length:=by rw [nq,np]
   rw [ax,e];omega
  ·rw [mJ,e1,e2];rcases aQ.1 hv with e | FV
   ·rw [if_pos e,e]
   ·rw [if_neg (fun e:v=x=>hn.1 (by rw [← e];exact FV))];exact h3 v FV
def tV (w:Wo) (c:List Li):Nat:=(w.size ^ (dg c).length).toNat
def gL (w:Wo) (c:List Li):Bool:=(List.range (tV w c)).all fun n=>bz w (mJ w.size (dg c) n) c
theorem UA {w:Wo} {f k:Int→Int} {c:List Li} (h:∀ v∈dg c,f v=k v):bz w f c=bz w k c:=by
 have h2:=(Ji c).1 h;unfold bz;rw [dU,bV,bV];have key:∀ l∈c,l.holds w f=l.holds w k:=fun l hl=>by
  obtain ⟨i,hi,rfl⟩:=e9.1 hl;obtain ⟨a,b⟩:=h2 i hi;unfold Li.holds;rw [Dg w _ a,Dg w _ b]
 constructor
 ·rintro ⟨l,hl,e⟩;exact ⟨l,hl,by rw [← key l hl];exact e⟩
 ·rintro ⟨l,hl,e⟩;exact ⟨l,hl,by rw [key l hl];exact e⟩
theorem Cg {w:Wo} {c:List Li} (hs : 1≤w.size):gL w c=true↔∀ f,sW w f→bz w f c=true:=by
 unfold gL tV;rw [a8];constructor
 ·intro h f hf;obtain ⟨n,h1,h2,h3⟩:=QZ hs f hf (dg c) (IP _ _ iF);have:=h n.toNat (cj.2 (by omega));rw [Int.toNat_of_nonneg h1] at this;rw [← UA (w:=w) h3];exact this
 ·intro h n _;exact h _ fun v=>LN hs _ _ v
theorem Qy {s:Int} (hs : 1≤s):∀ (k:Nat) (n:Int),0≤n→n*s ^ k≤700→qt s k n=n*s ^ k
 | 0,n,_,_=>by simp [qt]
 | k+1,n,h0,h=>by
  have e:n*s ^ (k+1)=n*s*s ^ k:=by rw [nq,oX,np (s ^ k) s]
  rw [e] at h ⊢;have hp : 1≤s ^ k:=rK (by omega);have h1 : 0≤n*s:=rJ h0 (by omega);have h2:n*s*1≤n*s*s ^ k:=du hp h1;rw [qt,dQ (by omega)];exact Qy hs k _ h1 h
theorem Ymx {w:Wo} {c:List Li} (h1 : 1≤w.size) (h2:w.size≤4) (h:en w c 700≤700):w.size ^ (dg c).length≤700:=by
 have hm:jL w.size 700 (dg c).length 1≤700:=by unfold en at h;omega
 have e:=UL h1 h2 (by decide) _ 1 (by omega) hm;omega
theorem Yv8 {c:List Li} (h:∀ l∈c,l.l.fit∧l.r.fit):Tm.fits (ck c):=by
 induction c with
 | nil=>trivial
 | cons l c ih =>
  obtain ⟨a,b⟩:=h l (by simp);exact ⟨a,b,ih fun x hx=>h x (by simp [hx])⟩
theorem Yoy {c:List Li} (h:∀ l∈c,l.l.size≤400∧l.r.size≤400):Tm.bG (ck c)≤800*c.length:=by
 induction c with
 | nil=>exact ae _
 | cons l c ih =>
  obtain ⟨a,b⟩:=h l (by simp);have:=ih fun x hx=>h x (by simp [hx]);have e:ck (l :: c)=l.l :: l.r :: ck c:=rfl;rw [e];simp only [Tm.bG,ax];omega
theorem UH {g:List Sy} {c:List Li} (h:iN g c):Tm.fits (ck c)∧Tm.bG (ck c)≤25600∧c.length≤32:=by
 have hl:=(w8 h.1).2.1;have:=Yoy (c:=c) fun l hl=>by
  obtain ⟨a1,a2⟩:=uE h hl;exact ⟨(p5 a1).2,(p5 a2).2⟩
 exact ⟨Yv8 h.2,by omega,hl⟩
theorem Zw5 (w:Wo) (of:List Int) (f:Int→Int) (hw : 1≤w.size) (AG:w.size≤4) (hf:∀ v,0≤f v∧f v<w.size) (c:List Li) (hlen:c.length<2 ^ 62) (ho:∀ (i:Nat) (h:i<c.length),(c[i].l.fit∧c[i].r.fit∧c[i].l.size<2 ^ 62∧c[i].r.size<2 ^ 62)∧c[i].l.okW w∧c[i].r.okW w)
  (ha:∀ (i:Nat) (h:i<c.length),c[i].l.dY (fun v=>f v=yD of v)∧c[i].r.dY (fun v=>f v=yD of v)) :
  aD Tryz.prog 52 [w.aM, .ps 1 (ints of), .ps 5 (lits c)] (.bool (bz w f c)):=by
 refine aD.begin (rs:=[.tmp 6]) (m:=18) 1000 Tryz.func52 rfl rfl rfl (by decide) trivial ?_;simp only [go_sem,ta];refine aG.cO (ι:={i:Nat // i≤c.length∧bz w f (c.drop i)=bz w f c}) 1000 (fun i=>fe 21 [(1, .ps 1 (ints of)),(2, .ps 5 (lits c)),(3, .ptr 0 0),(7, .int .i64 i.1)]) (fun _=>[some (.var [.int .i64 w.size, .ps 1 (jh w.rows)])]) (fun i=>c.length - i.1) ⟨0,by simp⟩ ?_ (fun _=>au _) ?_
 ·simp only [go_sem,dq,cy,rN,br,a_]
 ·rintro ⟨i,hi,aN⟩;by_cases bA:(i:Int)<c.length
  ·have aU:i<c.length:=by omega
   have hd:bz w f (c.drop i)=(c[i].holds w f||bz w f (c.drop (i+1))):=by
    rw [ao aU];rfl
   rw [hd] at aN;obtain ⟨⟨g1,g2,g3,g4⟩,g5,g6⟩:=ho i aU;obtain ⟨g7,g8⟩:=ha i aU;simp only [go_sem,fR,bA];refine aG.draw [] 1 1 mixed rfl rfl (ae _) ?_;simp only [go_sem,da,fR,aR,tz aU,kH,ae];rw [← ta]
   (repeat ((with_reducible refine And.intro ?_ ?_); ·omega))
   refine kG (Zwv w of f hw AG hf c[i] g1 g2 g3 g4 g5 g6 g7 g8) ?_ ?_ ?_
   ·simp only [Li.aM,Li.cs];exact cx _ _ _
   ·simp [go_sem,xb,dq,nt]
   simp only [go_sem];refine aG.go 1000 ?_;cases e:c[i].holds w f with
   | true =>
    rw [e,fM] at aN;simp only [go_sem];refine aG.go 1000 ?_;simp only [go_sem,← aN]
   | false =>
    rw [e,dk] at aN;simp only [go_sem];refine ⟨⟨i+1,aU,aN⟩,?_,by simp only;omega⟩;simp only [go_sem,dq,cy,rN,a_];rw [dQ (by omega)];trivial
  ·have dZ:i=c.length:=by omega
   subst dZ;rw [aX] at aN;simp only [go_sem,fR,bA];refine aG.go 1000 ?_;simp only [go_sem,← aN];rfl
set_option maxRecDepth 20000 in
set_option maxHeartbeats 1000000 in
theorem Le {g:List Sy} {w:Wo} {c:List Li} (hw:dO g w=true) (hc:iN g c) (hm:en w c 700≤700):aD Tryz.prog 18 [w.aM, .ps 5 (lits c)] (.bool (gL w c)):=by
 refine aD.begin (rs:=[.tmp 4]) (m:=49) 1000 Tryz.func18 rfl rfl rfl (by decide) trivial ?_;obtain ⟨q1,q2,q3,q4,q5,q6⟩:=yL hw;obtain ⟨hf,hs,ig⟩:=UH hc;have hA:=Ymx q2 q3 hm;have PB:=Qy q2 (dg c).length 1 (by omega) (by omega);rw [Int.one_mul] at PB;have yA : 1≤w.size ^ (dg c).length:=rK (by omega);have wI:=Zvp hc.1;have ph:(dg c).Nodup:=IP _ _ iF;have AF:=Gs (ck c) [];have apZ:(dg c).length<1000000:=by unfold dg;simp only [aS] at AF;omega
 have hWA:=fun (of:List Int) (f:Int→Int) (vp:∀ v,0≤f v∧f v<w.size) (ha:∀ v∈dg c,f v=yD of v)=>Zw5 w of f q2 q3 vp c (by omega) (fun i h=>by
  have h1:=T2 hf i h;have h2:=Tj i h;exact ⟨⟨h1.1,h1.2,by omega,by omega⟩,Yop hw hc.1 hf i h⟩) ((Ji c).1 ha)
 have DW:gL w c=(List.range (tV w c)).all fun n=>bz w (mJ w.size (dg c) n) c:=rfl;have hN:((tV w c:Nat):Int)=w.size ^ (dg c).length:=by unfold tV;omega
 have XP:=VH (ck c) hf (by omega);have HA:Tm.gw (ck c) []=dg c:=rfl;rw [HA] at XP;rw [← hN] at PB hA;rw [DW];generalize tV w c=N at *
 generalize dg c=vs at *
 simp only [go_sem,ta];refine aq.bS [] (Uv c (by omega)) (cx _ _ _) (by simp [go_sem,cy]) ?_;rw [je];simp only [ite_self];refine aG.go 1000 ?_;simp only [go_sem];refine aq.bS [] (XP) (cx _ _ _) (by simp [go_sem,bW]) ?_;rw [je];simp only [ite_self];refine aG.go 1000 ?_;simp only [go_sem,iZ];refine aq.bS [] (TP w.size vs.length (by omega)) (cx _ _ _) (by simp [go_sem, ]) ?_;simp only [bC,bN,bL,if_true];refine aG.go 1000 ?_;rw [aR,PB];simp only [go_sem, -List.reduceReplicate,Yps];refine aG.cO (ι:={q:Nat×List Int // q.1≤N∧q.2.length=256∧∀ m:Nat,m<q.1→bz w (mJ w.size vs m) c=true}) 1000 (fun q=>fe 51 [(1, .ps 5 (lits c)),(2, .ptr 0 0),(5, .ps 1 (ints vs)),(6, .int .i64 N),(7, .os 1 0 256 1),(8, .int .i64 q.1.1)])
  (fun q=>[some (.var [.int .i64 w.size, .ps 1 (jh w.rows)]),some (.row (ints q.1.2) 0)]) (fun q=>N - q.1.1) ⟨(0,List.replicate 256 0),au _,bB,fun m h=>absurd h (by simp)⟩ ?_ (fun _=>au _) ?_
 ·simp only [go_sem,dq,cy,rN, -List.reduceReplicate,show Int.toNat 256=256 from rfl]
 ·rintro ⟨⟨n,o⟩,hn,ho,aN⟩;simp only at hn ho aN;by_cases bA:(n:Int)<N
  case neg =>
   have Ku:n=N:=by omega
   subst Ku;simp only [go_sem,bA];refine aG.go 1000 ?_;simp only [go_sem,a8.2 (fun m hm=>aN m (cj.1 hm))]
  have aU:n<N:=by omega
  simp only [go_sem,bA];refine aG.cO (ι:={q:Nat×Int×List Int // q.1≤vs.length∧q.2.2.length=256∧(0≤q.2.1∧q.2.1≤n)∧(∀ v∈vs.take q.1,q.2.2.getD v.toNat 0=mJ w.size vs n v)∧∀ v,v ∉ vs.take q.1→mJ w.size vs n v=mJ w.size (vs.drop q.1) q.2.1 v}) 1000
   (fun q=>fe 51 [(1, .ps 5 (lits c)),(2, .ptr 0 0),(5, .ps 1 (ints vs)),(6, .int .i64 N),(7, .os 1 0 256 1),(8, .int .i64 n),(9, .int .i64 q.1.2.1),(10, .int .i64 q.1.1)])
   (fun q=>[some (.var [.int .i64 w.size, .ps 1 (jh w.rows)]),some (.row (ints q.1.2.2) 0)]) (fun q=>vs.length - q.1.1) ⟨(0,n,o),au _,ho,⟨by simp only;omega,oF _⟩,fun v hv=>absurd hv (by simp),fun v _=>by simp⟩ ?_ (fun _=>au _) ?_
  ·simp only [go_sem,dq,cy,rN]
  ·rintro ⟨⟨i,L,p⟩,hi,hp,⟨vZ,Hi⟩,gS,oO⟩;simp only at hi hp vZ Hi gS oO;by_cases xU:(i:Int)<vs.length
   ·have qj:i<vs.length:=by omega
    have rh:IntKind.i64.wrap ((i:Int)+1)=((i+1:Nat):Int):=by rw [dQ (by omega)];omega
    have g1:=s0 qj;have hr:=wI _ (aC qj);have rC:=Yck ph qj;have rf:vs.take (i+1)=vs.take i++[vs[i]]:=by rw [c9,av qj,gK]
    rw [ao qj] at oO;generalize vs[i]=x at *
    have Ph:L.tmod w.size=L % w.size:=Int.tmod_eq_emod_of_nonneg vZ;have hdiv:L.tdiv w.size=L / w.size:=Int.tdiv_eq_ediv_of_nonneg vZ;have OH : 0≤L / w.size:=Int.ediv_nonneg vZ (by omega);have hd1:L / w.size≤L:=Int.ediv_le_self _ vZ;obtain ⟨u,mo⟩:∃ u,(ints p).getD x.toNat .undef = .int .i64 u:=⟨_,s0 (by omega)⟩;simp only [go_sem,xU,iZ];refine aG.draw [.no, .no, .no, .no, .no, .no, .no, .no, .no, .no,⟨none,[1],[]⟩] 2 2 mixed rfl rfl (by decide) ?_;simp only [go_sem,da,iZ,g1,Ph,mo,Ypq]
    (repeat ((with_reducible refine And.intro ?_ ?_); ·omega))
    refine aG.go 1000 ?_;simp only [go_sem,hdiv];refine ⟨by omega,⟨(i+1,L / w.size,p.set x.toNat (L % w.size)),by simp only;omega,by simp only [bj];exact hp,⟨OH,by simp only;omega⟩,fun v hv=>?_,fun v hv=>?_⟩,?_,by simp only;omega⟩
    ·simp only [rf] at hv ⊢;rcases aY.1 hv with hv | hv
     ·have PX:=wI v (jF hv);have eH:v≠x:=fun e=>rC (by rw [← e];exact hv);rw [← gS v hv];simp only [cq,dz];rw [if_neg (by omega)]
     ·have e:=aL.1 hv;subst e;rw [oO v rC,mJ,if_pos rfl];simp only [cq,dz];rw [if_pos trivial,if_pos (by omega)];rfl
    ·simp only [rf,aY,aL,not_or] at hv ⊢;rw [oO v hv.1,mJ,if_neg hv.2]
    ·simp only [go_sem,dq,cy,rN,rh];rw [dQ (by omega)]
   ·have hje:i=vs.length:=by omega
    subst hje;rw [bZ] at gS;have hA2:=hWA p (mJ w.size vs n) (fun v=>LN q2 vs n v) (fun v hv=>by
     have h1:=wI v hv;unfold yD;rw [if_pos (by omega),← gS v hv])
    simp only [go_sem,xU,iZ];refine aG.go 1000 ?_;simp only [go_sem];rw [← ta];refine aq.bS [1] hA2 ?_ (by simp [go_sem,xb,dq,cy]) ?_
    ·simp only [go_sem,rr,rv,iZ];rw [bh (by rw [iZ];omega)];exact ⟨by omega,cx _ _ _⟩
    simp only [bC,bN,bL,if_true];refine aG.go 1000 ?_;cases e:bz w (mJ w.size vs n) c with
    | false =>
     have fq:((List.range N).all fun n=>bz w (mJ w.size vs n) c)=false:=by
      cases ha:(List.range N).all fun n=>bz w (mJ w.size vs n) c with
      | false=>rfl
      | true =>
       have:=a8.1 ha n (cj.2 aU);rw [e] at this;cases this
     simp only [go_sem];refine aG.go 1000 ?_;simp only [go_sem,fq]
    | true =>
     simp only [go_sem];refine ⟨⟨(n+1,p),aU,hp,fun m hm=>?_⟩,?_,by simp only;omega⟩
     ·by_cases hmn:m=n
      ·subst hmn;exact e
      ·exact aN m (by simp only at hm;omega)
     ·simp only [go_sem,dq,cy,rN];rw [dQ (by omega)];rfl
end Go.Proofs
namespace Go.Proofs
open Go Go.dm
theorem U6 {g:List Sy} {w:Wo} {es:List (List Li)} (hw:dO g w=true) (hu:∀ u∈cm es,jd g u.l∧jd g u.r):∀ (n:Nat) (c:List Li) (u:List Int),iN g c→(eY (dN g (cm es)) n c u).2.2=0 →
  ∃ more,(eY (dN g (cm es)) n c u).2.1=u++more∧(∀ k∈more,0≤k∧k<es.length)∧(∀ p,rQ p c→rQ p (eY (dN g (cm es)) n c u).1) ∧
   ((∀ k∈more,qv w es k)→∀ f,sW w f→bz w f (eY (dN g (cm es)) n c u).1=bz w f c)
 | 0,c,u,h,h0=>by rw [eY] at h0;cases h0
 | n+1,c,u,h,h0=>by
  rw [eY] at h0 ⊢;by_cases h1:(dN g (cm es) c).2.2.2=0
  ·rw [if_neg (fun k=>k h1)] at h0 ⊢;by_cases h2:(dN g (cm es) c).2.2.1=false
   ·rw [if_pos h2];exact ⟨[],by simp,fun k hk=>(by cases hk),fun p hp=>hp,fun _ f _=>rfl⟩
   ·rw [if_neg h2] at h0 ⊢;have uH:(dN g (cm es) c).2.2.1=true:=by simpa using h2
    by_cases h3 : 200<u.length+1
    ·rw [if_pos h3] at h0;cases h0
    ·rw [if_neg h3] at h0 ⊢;obtain ⟨v1,v2,v3⟩:=Yio w hu h h1 uH;obtain ⟨more,a1,a2,a3,a4⟩:=U6 hw hu n _ _ (MX hu h h1) h0;refine ⟨(dN g (cm es) c).2.1 :: more,by rw [a1];simp,fun k hk=>?_,fun p hp=>a3 p (v2 p hp),fun hk f hf=>?_⟩
     ·rcases aQ.1 hk with rfl | hk
      ·exact v1
      ·exact a2 k hk
     ·rw [a4 (fun k e7=>hk k (by simp [e7])) f hf];exact v3 hw (hk _ (by simp)) f hf
  ·rw [if_pos h1] at h0;exact absurd h0 h1
theorem My {c:List Li} {p:Int→Prop}:(∀ v∈dg c,p v)↔rQ p c:=by
 rw [Ji];constructor
 ·intro h l hl;obtain ⟨i,hi,rfl⟩:=e9.1 hl;exact h i hi
 ·intro h i hi;exact h _ (aC hi)
theorem Lo {w:Wo} {f:Int→Int} {a b:Li} (h:mM a b=true) (hn:a.neg=b.neg):a.holds w f=b.holds w f:=by
 unfold mM at h;simp only [bR,aB,decide_eq_true_eq] at h;unfold Li.holds;rcases h with ⟨h1,h2⟩ | ⟨h1,h2⟩
 ·rw [h1,h2,hn]
 ·rw [h1,h2,hn];congr 1;exact decide_eq_decide.2 ⟨Eq.symm,Eq.symm⟩
theorem Rh {w:Wo} {f:Int→Int} (a b:List Li):bz w f (a++b)=(bz w f a||bz w f b):=by unfold bz;rw [List.any_append]
theorem T6 {w:Wo} {f:Int→Int} {l:Li} (h:mz l=true):l.holds w f = !l.neg:=by
 unfold mz at h;unfold Li.holds;rw [of_decide_eq_true h];simp
theorem Ln {w:Wo} {f:Int→Int}:∀ (c out:List Li),bz w f (iL out c)=(bz w f out||bz w f c)
 | [],out=>by rw [iL];simp [bz]
 | l :: c,out=>by
  have hc:bz w f (l :: c)=(l.holds w f||bz w f c):=by unfold bz;rw [dC]
  rw [iL];split
  ·rename_i h;rw [Ln c out,hc];simp only [bR,aB] at h;rcases h with h | ⟨h1,h2⟩
   ·obtain ⟨m,hm,hs⟩:=bV.1 h;unfold fw at hs;simp only [aB,decide_eq_true_eq] at hs;have he:=Lo (w:=w) (f:=f) hs.2 hs.1;cases hl:l.holds w f
    ·simp
    ·have:bz w f out=true:=bV.2 ⟨m,hm,by rw [← he,hl]⟩;rw [this];simp
   ·rw [T6 h2,h1];simp
  ·rw [Ln c (out++[l]),Rh,hc,oV];congr 1;unfold bz;simp
theorem TY {w:Wo} {f:Int→Int} (c:List Li):bz w f (iK c)=bz w f c:=by
 unfold iK;rw [Ln];simp [bz]
theorem S_ {w:Wo} {f:Int→Int}:∀ (c b:List Li),pP b c=true→(bz w f b||bz w f c)=true
 | [],b,h=>by rw [pP] at h;cases h
 | l :: c,b,h=>by
  have hc:bz w f (l :: c)=(l.holds w f||bz w f c):=by unfold bz;rw [dC]
  rw [pP] at h;split at h
  ·rename_i hh;rw [hc];simp only [bR,aB,bw] at hh;rcases hh with hh | ⟨h1,h2⟩
   ·obtain ⟨m,hm,ho⟩:=bV.1 hh;unfold vJ at ho;simp only [aB,decide_eq_true_eq] at ho;have he:=Lo (w:=w) (f:=f) (a:=⟨m.neg,l.l,l.r⟩) (b:=m) ho.2 rfl;cases hl:l.holds w f
    ·have Pe:m.holds w f=true:=by
      rw [← he];unfold Li.holds at hl ⊢;have eH:=ho.1;revert hl eH;cases l.neg<;>cases m.neg<;>simp
     have:bz w f b=true:=bV.2 ⟨m,hm,Pe⟩;rw [this];simp
    ·simp
   ·rw [T6 h2,h1];simp
  ·have ih:=S_ (w:=w) (f:=f) c (b++[l]) h;rw [Rh] at ih;rw [hc,← oV];have:bz w f [l]=l.holds w f:=by unfold bz;simp
   rw [this] at ih;exact ih
theorem Ybz {w:Wo} {f:Int→Int} {c:List Li} (h:kS c=true):bz w f c=true:=by
 have:=S_ (w:=w) (f:=f) c [] h;simpa [bz] using this
def KH (f:Int→Tm) (a l:Li):Prop:=(a.l.ap f=l.l∧a.r.ap f=l.r)∨(a.l.ap f=l.r∧a.r.ap f=l.l)
def B4 (m:List Bd) (f:Int→Tm):Prop:=∀ b∈m,f b.v=b.t
theorem Sf:∀ (S:List (Tm×Tm)) (m m':List Bd),gU S m=some m'→(m.map Bd.v).Nodup→(m'.map Bd.v).Nodup:=by
 intro S m
 induction S,m using gU.induct with
 | case1 m=>intro m' h hn;rw [gU] at h;cases h;exact hn
 | case2 x r m hv c hf he ih =>
  intro m' h hn;rw [gU,if_pos hv,hf] at h;simp only [if_pos he] at h;exact ih m' h hn
 | case3 x r m hv c hf he =>
  intro m' h;rw [gU,if_pos hv,hf] at h;simp only [if_neg he] at h;cases h
 | case4 x r m hv hf ih =>
  intro m' h hn;rw [gU,if_pos hv,hf] at h;simp only at h;refine ih m' h ?_;rw [cY,fU];refine ⟨hn,by simp,fun a ha b hb e=>?_⟩;simp only [aK,aV,aL] at hb;obtain ⟨z,hz,rfl⟩:=cB.1 ha;rw [iX] at hf;exact hf z hz (by simp only [beq_iff_eq];rw [e,hb])
 | case5 x r m hv hc =>
  intro m' h;rw [gU,if_neg hv,if_pos hc] at h;cases h
 | case6 x r m hv hc ih =>
  intro m' h hn;rw [gU,if_neg hv,if_neg hc] at h;exact ih m' h hn
theorem Uq {b:List Bd} {a:Li} {x y:Tm} {F:List Bd→Bool} (h:la b a x y F=true) :
  ∃ m:List Bd,(∀ z∈b,z∈m)∧((b.map Bd.v).Nodup→(m.map Bd.v).Nodup)∧(∀ f,B4 m f→a.l.ap f=x∧a.r.ap f=y)∧F m=true:=by
 unfold la at h;cases h1:nn b a.l x with
 | none=>rw [h1] at h;cases h
 | some m =>
  rw [h1] at h;simp only at h;cases h2:nn m a.r y with
  | none=>rw [h2] at h;cases h
  | some k =>
   rw [h2] at h;obtain ⟨p1,p2⟩:=Mx _ _ _ h1;obtain ⟨q1,q2⟩:=Mx _ _ _ h2;refine ⟨k,fun z hz=>q1 z (p1 z hz),fun hn=>Sf _ _ _ h2 (Sf _ _ _ h1 hn),fun f hf=>⟨?_,?_⟩,h⟩
   ·exact p2 f (fun z hz=>hf z (q1 z hz)) (a.l,x) (by simp)
   ·exact q2 f hf (a.r,y) (by simp)
theorem T9 {b:List Bd} {a l:Li} {F:List Bd→Bool} (h:mA b a l F=true) :
  iU a=iU l∧∃ m:List Bd,(∀ z∈b,z∈m)∧((b.map Bd.v).Nodup→(m.map Bd.v).Nodup)∧(∀ f,B4 m f→KH f a l)∧F m=true:=by
 unfold mA at h;split at h
 ·cases h
 rename_i hk;refine ⟨Decidable.not_not.1 hk,?_⟩;rcases bR _ _ ▸ h with h | h
 ·obtain ⟨m,m1,m2,m3,m4⟩:=Uq h;exact ⟨m,m1,m2,fun f hf=>.inl (m3 f hf),m4⟩
 ·obtain ⟨m,m1,m2,m3,m4⟩:=Uq h;exact ⟨m,m1,m2,fun f hf=>.inr (m3 f hf),m4⟩
theorem Xo {us:List Bool} {k j:Nat} (h:(us.set k true).getD j false=false):us.getD j false=false∧(k<us.length→j≠k):=by
 simp only [cq,dz] at h ⊢;split at h
 ·rename_i e;subst e;split at h
  ·cases h
  ·rename_i hn;exact ⟨by rw [bt (by omega)];rfl,fun k=>absurd k hn⟩
 ·rename_i e;exact ⟨h,fun _=>fun e2=>e e2.symm⟩
theorem MA (d:List Li):∀ (c:List Li) (us:List Bool) (b:List Bd),o7 d c us b=true →
  ∃ m:List Bd,(∀ z∈b,z∈m)∧((b.map Bd.v).Nodup→(m.map Bd.v).Nodup)∧∀ a∈c, ∃ k:Nat,k<d.length∧us.getD k false=false∧(d.getD k gF).neg=a.neg∧iU a=iU (d.getD k gF)∧∀ f,B4 m f→KH f a (d.getD k gF)
 | [],us,b,_=>⟨b,fun _ h=>h,id,fun a ha=>by cases ha⟩
 | a :: c,us,b,h=>by
  rw [o7] at h;obtain ⟨k,hk,h⟩:=bV.1 h;rw [cj] at hk;simp only [aB,bw,decide_eq_true_eq] at h;obtain ⟨⟨h1,h2⟩,h3⟩:=h;obtain ⟨h4,m,m1,m2,m3,m4⟩:=T9 h3;obtain ⟨q,q1,q2,q3⟩:=MA d c _ m m4;refine ⟨q,fun z hz=>q1 z (m1 z hz),fun hn=>q2 (m2 hn),fun x hx=>?_⟩;rcases aQ.1 hx with rfl | hx
  ·exact ⟨k,hk,h1,h2,h4,fun f hf=>m3 f fun z hz=>hf z (q1 z hz)⟩
  ·obtain ⟨j,j1,j2,j3⟩:=q3 x hx;exact ⟨j,j1,(Xo j2).1,j3⟩
theorem Rc {m:List Bd} (h:(m.map Bd.v).Nodup):B4 m (nV m):=JX h
theorem Zxh {g:List Sy} {l:Li} (h:l.check g=0) (hs:eg g=true) (hk:iU l=false):l.l.cd g=false∧l.r.cd g=false:=by
 unfold iU at hk;simp only [bK,decide_eq_false_iff_not] at hk;obtain ⟨c1,c2⟩:=Gb h;unfold Li.check at h;rw [if_neg (by simp [c1]),if_neg (by simp [c2])] at h;cases h1:l.l.cd g
 ·cases h2:l.r.cd g
  ·exact ⟨rfl,rfl⟩
  ·rw [h1,h2] at h;simp at h
 ·rw [h1] at h;simp [hk.2] at h
theorem Yl8 {g:List Sy} {a:Li} (h:a.check g=0) (hs:eg g=true) (hv:a.l.head<0∨a.r.head<0):iU a=false:=by
 obtain ⟨c1,c2⟩:=Gb h;unfold Li.check at h;rw [if_neg (by simp [c1]),if_neg (by simp [c2])] at h;have hn:∀ t:Tm,t.head<0→t.cd g=false:=fun t ht=>by
  unfold Tm.cd;rw [show decide (0≤t.head)=false by simp;omega];rfl
 unfold iU;simp only [bK,decide_eq_false_iff_not];rcases hv with hv | hv
 ·refine ⟨by omega,fun h0=>?_⟩;rw [hn _ hv,LR hs h0] at h;simp at h
 ·refine ⟨fun h0=>?_,by omega⟩;rw [hn _ hv,LR hs h0] at h;simp only [cG,Bool.not_true,cE,oW,decide_eq_true_eq] at h;rw [if_pos (by omega)] at h;cases h
theorem Mt {g:List Sy} {a l:Li} {s:Int→Tm} (ha:a.check g=0) (hl:l.check g=0) (hs:eg g=true) (hk:iU a=iU l) (h:KH s a l):a.l.dY (fun v=>nY g (s v))∧a.r.dY fun v=>nY g (s v):=by
 obtain ⟨a1,a2⟩:=Gb ha;obtain ⟨l1,l2⟩:=Gb hl;obtain ⟨p1,p2,p3⟩:=mg a1;obtain ⟨q1,q2,q3⟩:=mg a2;obtain ⟨u1,u2,u3⟩:=mg l1;obtain ⟨v1,v2,v3⟩:=mg l2;have g1:=(ru p1).2.2;have g2:=(ru q1).2.2;have ht:(a.l.head<0∨a.r.head<0)→l.l.cd g=false∧l.r.cd g=false:=fun hv=>Zxh hl hs (by rw [← hk];exact Yl8 ha hs hv);rcases h with ⟨e1,e2⟩ | ⟨e1,e2⟩
 ·exact ⟨Fl s a.l g1 (by rw [e1];exact u2) (by rw [e1];exact u3) (fun hn=>by rw [e1];exact (ht (.inl hn)).1),
   Fl s a.r g2 (by rw [e2];exact v2) (by rw [e2];exact v3) (fun hn=>by rw [e2];exact (ht (.inr hn)).2)⟩
 ·exact ⟨Fl s a.l g1 (by rw [e1];exact v2) (by rw [e1];exact v3) (fun hn=>by rw [e1];exact (ht (.inl hn)).2),
   Fl s a.r g2 (by rw [e2];exact u2) (by rw [e2];exact u3) (fun hn=>by rw [e2];exact (ht (.inr hn)).1)⟩
theorem RI {g:List Sy} {w:Wo} {c:List Li} (hw:dO g w=true) (hh:∀ f,sW w f→bz w f c=true) {f:Int→Int} (hf:sW w f) {s:Int→Tm} (PQ:rQ (fun v=>nY g (s v)) c) :
  ∃ a∈c,(⟨a.neg,a.l.ap s,a.r.ap s⟩:Li).holds w f=true:=by
 have hs:=(yL hw).2.1;have fD:∀ v,nY g (s v)→0≤(s v).val w f∧(s v).val w f<w.size:=fun v hv=>Jg hs hf _ (Nd hw _ hv.1 hv.2)
 let k:Int→Int:=fun v=>if v∈dg c then (s v).val w f else 0
 have PS:=My.2 PQ;have hk:sW w k:=fun v=>by
  simp only [k];split
  ·rename_i hv;exact fD v (PS v hv)
  ·omega
 have hv:rQ (fun v=>(s v).val w f=k v) c:=My.1 fun v hv=>by simp only [k];rw [if_pos hv]
 obtain ⟨a,ha,h⟩:=bV.1 (hh k hk);refine ⟨a,ha,?_⟩;unfold Li.holds at h ⊢;simp only
 rw [Ds,Ds,Dg w _ (hv a ha).1,Dg w _ (hv a ha).2];exact h
theorem Nf {w:Wo} {f:Int→Int} {s:Int→Tm} {a l:Li} (h:KH s a l):(⟨a.neg,a.l.ap s,a.r.ap s⟩:Li).holds w f=(⟨a.neg,l.l,l.r⟩:Li).holds w f:=by
 rcases h with ⟨e1,e2⟩ | ⟨e1,e2⟩
 ·rw [e1,e2]
 ·rw [e1,e2];exact Lo (by unfold mM;simp) rfl
theorem Fv {g:List Sy} {c:List Li} (hc:iN g c) {a:Li} (ha:a∈c):a.check g=0:=(w8 hc.1).2.2 a ha
theorem Yc0 {g:List Sy} {w:Wo} {c d:List Li} (hw:dO g w=true) (hc:iN g c) (hd:iN g d) (h:sG c d=true) (hh:∀ f,sW w f→bz w f c=true) {f:Int→Int} (hf:sW w f):bz w f d=true:=by
 unfold sG at h;simp only [aB,decide_eq_true_eq] at h;obtain ⟨m,_,m2,m3⟩:=MA d c _ _ h.2;have xZ:=Rc (m2 (by simp));have vC:=(w8 hc.1).1;have eJ:∀ k,k<d.length→d.getD k gF∈d:=fun k hk=>by simp [List.getD,hk]
 obtain ⟨a,ha,h1⟩:=RI (s:=nV m) hw hh hf (fun a ha=>by
  obtain ⟨k,k1,_,_,k4,k5⟩:=m3 a ha;exact Mt (Fv hc ha) (Fv hd (eJ k k1)) vC k4 (k5 _ xZ))
 obtain ⟨k,k1,_,k3,_,k5⟩:=m3 a ha;refine bV.2 ⟨d.getD k gF,eJ k k1,?_⟩;rw [Nf (k5 _ xZ),← k3] at h1;exact h1
theorem Yef {g:List Sy} {w:Wo} {c d:List Li} (hw:dO g w=true) (hc:iN g c) (hd:iN g d) {k:Nat} (h:rT c d=some k) (hh:∀ f,sW w f→bz w f c=true) {f:Int→Int} (hf:sW w f):bz w f (d.eraseIdx k)=bz w f d:=by
 have hk:=QU h;unfold rT at h;have h2:((List.range c.length).any fun i=>cutAt c d k i)=true:=fV (p:=fun k=>(List.range c.length).any fun i=>cutAt c d k i) h;obtain ⟨i,hi,h⟩:=bV.1 h2;rw [cj] at hi;unfold cutAt at h;simp only [aB,decide_eq_true_eq] at h;obtain ⟨fX,h⟩:=h;obtain ⟨hkd,m0,_,n2,n3,n4⟩:=T9 h;obtain ⟨m,m1,m2,m3⟩:=MA d _ _ _ n4;have xZ:=Rc (m2 (n2 (by simp)));have sR:=n3 _ fun z hz=>xZ z (m1 z hz);have vC:=(w8 hc.1).1;have eJ:∀ k,k<d.length→d.getD k gF∈d:=fun k hk=>by simp [List.getD,hk]
 have xR:∀ k,k<c.length→c.getD k gF∈c:=fun k hk=>by simp [List.getD,hk]
 have zt:∀ a∈c,a=c.getD i gF∨a∈c.eraseIdx i:=fun a ha=>by
  obtain ⟨j,hj,rfl⟩:=e9.1 ha;by_cases e:j=i
  ·subst e;left;simp [List.getD,hj]
  ·right;exact me.2 ⟨j,hj,e,rfl⟩
 obtain ⟨a,ha,h1⟩:=RI (s:=nV m) hw hh hf (fun a ha=>by
  rcases zt a ha with rfl | Ot
  ·exact Mt (Fv hc (xR i hi)) (Fv hd (eJ k hk)) vC hkd sR
  ·obtain ⟨j,k1,_,_,k4,k5⟩:=m3 a Ot;exact Mt (Fv hc ha) (Fv hd (eJ j k1)) vC k4 (k5 _ xZ))
 rw [dU];constructor
 ·intro q;obtain ⟨l,hl,e⟩:=bV.1 q;exact bV.2 ⟨l,kp hl,e⟩
 ·intro q;rcases zt a ha with rfl | Ot
  ·rw [Nf sR] at h1;have Ko:(d.getD k gF).holds w f=false:=by
    unfold Li.holds at h1 ⊢;simp only at h1;revert h1 fX;generalize (d.getD k gF).neg=x;generalize (c.getD i gF).neg=y;generalize ((d.getD k gF).l.val w f==(d.getD k gF).r.val w f)=z;cases x<;>cases y<;>cases z<;>simp
   obtain ⟨l,hl,e⟩:=bV.1 q;obtain ⟨j,hj,rfl⟩:=e9.1 hl;refine bV.2 ⟨d[j],me.2 ⟨j,hj,fun ej=>?_,rfl⟩,e⟩;subst ej;rw [show d.getD j gF=d[j] by simp [List.getD,hj],e] at Ko;cases Ko
  ·obtain ⟨j,k1,k2,k3,_,k5⟩:=m3 a Ot;rw [Nf (k5 _ xZ),← k3] at h1;refine bV.2 ⟨d.getD j gF,me.2 ⟨j,k1,(Xo k2).2 (by unfold jw;simpa using hk),by simp [List.getD,k1]⟩,h1⟩
end Go.Proofs
namespace Go.Proofs
open Go Go.dm
attribute [local go_sem] Nat.reduceAdd Nat.reduceSub Nat.reduceMul Nat.reduceLeDiff Nat.reduceEqDiff Nat.reduceBEq Nat.reduceLT Nat.le_refl Int.natCast_zero Nat.sub_zero List.length_map Int.toNat_natCast Int.natCast_one Int.reduceEq Int.reduceLT Int.reduceLE Int.reduceNe Int.sub_zero Int.zero_add Int.toNat_one
theorem MW:aD Tryz.prog 45 [] (.ps 4 (syms tx)):=by
 refine aD.begin (rs:=[.tmp 0]) (m:=6) 1000 Tryz.func45 rfl rfl rfl (by decide) (dy _) ?_;have e1:syms tx=[.agg [.str ⟨#[36,116,114,117,101]⟩, .int .i64 0, .int .i64 1, .bool true], .agg [.str ⟨#[97]⟩, .int .i64 0, .int .i64 1, .bool false], .agg [.str ⟨#[102]⟩, .int .i64 1, .int .i64 1, .bool false], .agg [.str ⟨#[112]⟩, .int .i64 1, .int .i64 1, .bool true]]:=rfl;simp only [go_sem,e1]
theorem E9 (t:Tm):aD Tryz.prog 44 [t.aM] (.ps 5 (lits (iS t))):=by
 refine aD.begin (rs:=[.tmp 2]) (m:=8) 1000 Tryz.func44 rfl rfl rfl (by decide) (cy _) ?_;have h1:=JU 3 [t];have h2:=JU 0 [];simp only [go_sem,fL];refine aq.bS [1] h1 ?_ (by simp [go_sem,dG]) ?_
 ·simp only [go_sem,rr,rv,aK,aV,cZ]
 rw [show bC (Tm.mk 3 [t]).aM=false from rfl]
 refine aG.go 1000 ?_;simp only [go_sem,rr,rv];refine aq.bS [] h2 ?_ (by simp [go_sem,dG]) ?_
 ·simp only [go_sem,aV]
 rw [je];simp only [ite_self];refine aG.go 1000 ?_;have e1:lits (iS t)=[.agg [.bool false, .int .i64 (Tm.mk 3 [t]).head, .ps 2 ((Tm.mk 3 [t]).args.map Tm.aM), .int .i64 (Tm.mk 0 []).head, .ps 2 ((Tm.mk 0 []).args.map Tm.aM)]]:=rfl;simp only [go_sem,fL,e1]
def oK (c:List Li):Bool:=jj c&&(decide (c.length≤6)||decide (32<c.length))
theorem W4 (c:List Li):aD Tryz.prog 22 [.ps 5 (lits c)] (.bool (oK c)):=by
 refine aD.begin (rs:=[.tmp 2]) (m:=14) 1000 Tryz.func22 rfl rfl rfl (by decide) trivial ?_;unfold oK;simp only [go_sem];refine aq.bS [] (Uf c) (cx _ _ _) ⟨cy _,trivial⟩ ?_;simp only [bC,bN,bL,if_true];refine aG.go 1000 ?_;cases h:jj c
 ·simp only [go_sem]
 ·by_cases h1:c.length≤6
  ·have oq:(c.length:Int)≤6:=by omega
   simp only [go_sem,fR,oq,h1,decide_true,fM,Bool.and_self]
  ·have oq:¬ (c.length:Int)≤6:=by omega
   by_cases h2 : 32<c.length
   ·have uH:(32:Int)<(c.length:Int):=by omega
    simp only [go_sem,fR,oq,h1,uH,h2,decide_true,decide_false,Bool.or_true,Bool.and_self]
   ·have uH:¬ (32:Int)<(c.length:Int):=by omega
    simp only [go_sem,fR,oq,h1,uH,h2,decide_true,decide_false,oW,iD]
def p6 (c:List Li):Bool:=!oK c || !qc c
def tF (g:List Sy) (es:List (List Li)) (c:List Li):Bool:=if es.length≤8∧es.any p6=true then false else lV g&&pE es&&qc c&&oK c
theorem Ykk (g:List Sy) (es:List (List Li)) (c:List Li) (hc:c.length≤2600000000000):aD Tryz.prog 8 [.ps 4 (syms g), .ps 1 (dp es), .ps 5 (lits c)] (.bool (tF g es c)):=by
 refine aD.begin (rs:=[.tmp 6]) (m:=44) 1000 Tryz.func8 rfl rfl rfl (by decide) trivial ?_;obtain ⟨Z,hZ⟩:∃ Z,tF g es c=Z:=⟨_,rfl⟩;rw [hZ];unfold tF at hZ;simp only [go_sem];refine aG.cO (ι:={i:Nat // i≤es.length∧(es.length≤8→(es.drop i).any p6=es.any p6)∧(i=0∨es.length≤8)}) 1000 (fun q=>fe 47 [(0, .ps 4 (syms g)),(1, .ps 1 (dp es)),(2, .ps 5 (lits c)),(6, .bool false),(7, .int .i64 q.1)])
  (fun _=>[]) (fun q=>es.length - q.1) ⟨0,au _,fun _=>rfl, .inl rfl⟩ ?_ (fun _=>au _) ?_
 ·simp only [go_sem,dy,fO,cy]
 ·rintro ⟨i,hi,aN,h8⟩;have hend:(es.length≤8→es.any p6=false)→(lV g&&pE es&&qc c&&oK c)=Z:=fun h=>by
   rw [if_neg (by rintro ⟨a,b⟩;rw [h a] at b;cases b)] at hZ;exact hZ
  have hS:=Ybb g;have hE:=Yiv es;have Xz:=Vq c hc;have XA:=W4 c;by_cases bA:(i:Int)<es.length
  ·have aU:i<es.length:=by omega
   by_cases Kh:es.length≤8
   ·have Bw:(es.length:Int)≤8:=by omega
    have hw:IntKind.i64.wrap ((i:Int)+1)=((i+1:Nat):Int):=by rw [dQ (by omega)];omega
    have hp:=aN Kh;rw [ao aU,dC] at hp;have g1:=Ae aU;have PD:=W4 es[i];have PC:=fun h:es[i].length≤2600000000000=>Vq es[i] h;have hlen:oK es[i]=true→es[i].length≤40:=fun h=>by
     unfold oK at h;rw [aB] at h;exact (Ub h.1).2
    generalize es[i]=r at *
    have pG:p6 r=true→Z=false:=fun h=>by
     rw [h,fM] at hp;rw [if_pos ⟨Kh,hp.symm⟩] at hZ;exact hZ.symm
    have jA:p6 r=false→(es.drop (i+1)).any p6=es.any p6:=fun h=>by rw [h,dk] at hp;exact hp
    simp only [go_sem,m9,bA,Bw,g1];refine ⟨by omega,?_⟩;refine aq.bS [] PD (cx _ _ _) ⟨cy _,trivial⟩ ?_;simp only [bC,bN,bL,if_true];refine aG.go 1000 ?_;cases q1:oK r
    ·have:=pG (by unfold p6;rw [q1];rfl);subst this;simp only [go_sem];refine aG.go 1000 ?_;simp only [go_sem]
    ·have hr:=PC (by have:=hlen q1;omega);simp only [go_sem,m9,bA,Bw,g1];refine ⟨by omega,?_⟩;refine aq.bS [] hr (cx _ _ _) ⟨cy _,trivial⟩ ?_;simp only [bC,bN,bL,if_true];refine aG.go 1000 ?_;cases q2:qc r
     ·have:=pG (by unfold p6;rw [q1,q2];rfl);subst this;simp only [go_sem];refine aG.go 1000 ?_;simp only [go_sem]
     ·simp only [go_sem,hw];refine ⟨⟨i+1,by omega,fun _=>jA (by unfold p6;rw [q1,q2];rfl), .inr Kh⟩,?_,by simp only;omega⟩;simp only [go_sem,dy,fO,cy]
   ·have Bw:¬ (es.length:Int)≤8:=by omega
    have hz:=hend fun h=>absurd h Kh;clear hend;simp only [go_sem,m9,bA,Bw];refine aG.go 1000 ?_;simp only [go_sem];refine aq.bS [] hS (cx _ _ _) ⟨dy _,trivial⟩ ?_;simp only [bC,bN,bL,if_true];refine aG.go 1000 ?_;cases e1:lV g
    ·rw [e1] at hz;rw [← hz];simp only [go_sem]
    ·simp only [go_sem];refine aq.bS [] hE (cx _ _ _) ⟨fO _,trivial⟩ ?_;simp only [bC,bN,bL,if_true];refine aG.go 1000 ?_;cases e2:pE es
     ·rw [e1,e2] at hz;rw [← hz];simp only [go_sem]
     ·simp only [go_sem];refine aq.bS [] Xz (cx _ _ _) ⟨cy _,trivial⟩ ?_;simp only [bC,bN,bL,if_true];refine aG.go 1000 ?_;cases e3:qc c
      ·rw [e1,e2,e3] at hz;rw [← hz];simp only [go_sem]
      ·simp only [go_sem];refine aq.bS [] XA (cx _ _ _) ⟨cy _,trivial⟩ ?_;simp only [bC,bN,bL,if_true];refine aG.go 1000 ?_;rw [e1,e2,e3,cG,cG,cG] at hz;rw [hz];simp only [go_sem]
  ·have dZ:i=es.length:=by omega
   subst dZ;have hz:=hend fun h=>by rw [← aN h,aX];rfl
   simp only [go_sem,m9,bA];refine aG.go 1000 ?_;simp only [go_sem];refine aq.bS [] hS (cx _ _ _) ⟨dy _,trivial⟩ ?_;simp only [bC,bN,bL,if_true];refine aG.go 1000 ?_;cases e1:lV g
   ·rw [e1] at hz;rw [← hz];simp only [go_sem]
   ·simp only [go_sem];refine aq.bS [] hE (cx _ _ _) ⟨fO _,trivial⟩ ?_;simp only [bC,bN,bL,if_true];refine aG.go 1000 ?_;cases e2:pE es
    ·rw [e1,e2] at hz;rw [← hz];simp only [go_sem]
    ·simp only [go_sem];refine aq.bS [] Xz (cx _ _ _) ⟨cy _,trivial⟩ ?_;simp only [bC,bN,bL,if_true];refine aG.go 1000 ?_;cases e3:qc c
     ·rw [e1,e2,e3] at hz;rw [← hz];simp only [go_sem]
     ·simp only [go_sem];refine aq.bS [] XA (cx _ _ _) ⟨cy _,trivial⟩ ?_;simp only [bC,bN,bL,if_true];refine aG.go 1000 ?_;rw [e1,e2,e3,cG,cG,cG] at hz;rw [hz];simp only [go_sem]
theorem TE (g:List Sy) (es:List (List Li)) (c:List Li) (h:su es c) :
  aD Tryz.prog 11 [.ps 4 (syms g), .ps 1 (dp es), .ps 5 (lits c)] (.dT [.bool (decide ((iJ g es c).1.gone≠0)), .int .i64 (iJ g es c).2]):=by
 refine aD.begin (rs:=[.tmp 6, .tmp 7]) (m:=18) 1000 Tryz.func11 rfl rfl rfl (by decide) ⟨trivial,trivial,trivial⟩ ?_;have hF:=NS g es c h;generalize iJ g es c=z at *
 obtain ⟨⟨d,u,gn,wh⟩,e⟩:=z;unfold Si.aM at hF;simp only [go_sem];refine aq.bS [] hF (cx _ _ _) ⟨dy _,fO _,cy _,trivial⟩ ?_;rw [je];simp only [ite_self];refine aG.go 1000 ?_;simp only [go_sem]
theorem Ysx:iJ tx oE (iS (iR iQ))=(⟨iS iQ,[0],0, -1⟩,0):=by kernel_rfl
theorem Ys3:iJ tx (oE++[iS (iR iu)]) (iS (iR iQ))=(⟨iS iQ,[0],0, -1⟩,0):=by kernel_rfl
theorem Ysb:iJ tx (oE++[iS iu]) (iS (iR iQ))=(⟨iS iQ,[0],2,1⟩,0):=by kernel_rfl
theorem US:(iR iQ).fit:=by simp [iR,iQ,Tm.fit,Tm.fits,mE]
theorem QB (t:Tm) (h:t.size<100) (hf:t.fit):su (oE++[iS t]) (iS (iR iQ)):=⟨by simp [oE],fun x hx=>by
 rcases aQ.1 hx with rfl | hx
 ·exact NG _ (by decide) US
 ·rcases aY.1 hx with hx | hx
  ·exact Ru x hx
  ·rw [aL.1 hx];exact NG t h hf⟩
set_option maxRecDepth 10000 in
theorem EX:aD Tryz.prog 12 [] (.bool true):=by
 refine aD.begin (rs:=[.tmp 0]) (m:=106) 1000 Tryz.func12 rfl rfl rfl (by decide) trivial ?_;have hv:=Yso 0 (by omega);rw [show Tm.mk (-1 - 0) []=iu from rfl] at hv
 have vp:aD Tryz.prog 43 [.int .i64 1, .ps 2 []] iQ.aM:=JU 1 [];simp only [go_sem];refine aq.bS [] hv (by simp only [go_sem]) ⟨trivial,trivial⟩ ?_;rw [je];simp only [ite_self];refine aG.go 1000 ?_;simp only [go_sem,fL];refine aq.bS [] vp (by simp only [go_sem]) ⟨trivial,trivial,trivial⟩ ?_;rw [je];simp only [ite_self];refine aG.go 1000 ?_;simp only [go_sem,fL];refine aG.draw [.no,⟨some 2,[2],[]⟩,⟨none,[2],[]⟩,⟨none,[],[2]⟩, .no,⟨some 3,[3],[]⟩] 2 4 mixed rfl rfl (by decide) ?_;simp only [go_sem,da];have r0:iu.aM = .agg [.int .i64 iu.head, .ps 2 (List.map Tm.aM iu.args)]:=cZ _;have r1:iQ.aM = .agg [.int .i64 iQ.head, .ps 2 (List.map Tm.aM iQ.args)]:=cZ _;refine Ac [2] (GV iu) ?_ ⟨trivial,⟨dG _,trivial⟩,trivial⟩ (by rw [Ab];simp [gD,ke,among,fB]) ?_
 ·simp only [go_sem,rr,rv,r0]
 rw [Ab];simp only [go_sem,gD,ke,rr,rv,bd,if_false,fL];refine aG.go 1000 ?_;simp only [go_sem];refine aG.draw [⟨none,[],[4,5,6]⟩,⟨none,[],[5,6]⟩,⟨some 4,[4],[5,6]⟩,⟨none,[],[4,5,6]⟩,⟨none,[],[4,6]⟩,⟨some 5,[5],[4,6]⟩,⟨none,[5],[4,6]⟩,⟨none,[],[4,6]⟩,⟨none,[3,4],[6]⟩,⟨none,[],[6]⟩,⟨none,[],[6]⟩,⟨none,[],[6]⟩,⟨some 6,[6],[3,4,5]⟩,⟨none,[6],[]⟩] 4 7 mixed rfl rfl (by decide) ?_;simp only [go_sem,da];refine kG MW (cx _ _ _) trivial ?_;simp only [go_sem];refine Ac [5] (GV iQ) ?_ ⟨trivial,⟨dG _,trivial⟩,trivial⟩ (by rw [Ab];simp [gD,ke,among,fB]) ?_
 ·simp only [go_sem,rr,rv,r1]
 rw [Ab];simp only [go_sem,gD,ke,rr,rv,bd,if_false,fL];refine kG (E9 (iR iQ)) (cx _ _ _) ⟨dG _,trivial⟩ ?_;simp only [go_sem];have hN:=NS tx oE (iS (iR iQ)) (Ywt _ (by decide) US);rw [Ysx] at hN;have si:(⟨iS iQ,[0],0, -1⟩:Si).aM = .agg [.ps 5 (lits (iS iQ)), .ps 1 (ints [0]), .int .i64 0, .int .i64 (-1)]:=rfl;simp only [si] at hN;have Xw:bC (.dT [.agg [.ps 5 (lits (iS iQ)), .ps 1 (ints [0]), .int .i64 0, .int .i64 (-1)], .int .i64 0])=false:=rfl;have eU:dp oE=[.ps 5 [.agg [.bool false, .int .i64 (iR iu).head, .ps 2 ((iR iu).args.map Tm.aM), .int .i64 iu.head, .ps 2 (iu.args.map Tm.aM)]]]:=rfl;refine Ac [3,4] hN ?_ ⟨dy _,fO _,cy _,trivial⟩ (by rw [Xw];simp [gD,ke,among,fB]) ?_
 ·simp only [go_sem,rr,rv,eU]
 rw [Xw];simp only [go_sem,gD,ke,rr,rv,bd,if_false,fL];refine aG.go 1000 ?_;simp only [go_sem];refine aG.draw [⟨none,[],[7,9]⟩,⟨none,[],[7,9]⟩,⟨none,[],[7,9]⟩,⟨none,[],[9]⟩,⟨some 7,[7],[9]⟩,⟨none,[7],[9]⟩,⟨none,[],[9]⟩,⟨some 8,[8],[9]⟩,⟨none,[],[7,8,9]⟩,⟨none,[],[7,8]⟩,⟨some 9,[9],[7,8]⟩,⟨none,[9],[8]⟩,⟨none,[],[8]⟩,⟨none,[3,8],[]⟩] 7 10 mixed rfl rfl (by decide) ?_;simp only [go_sem,da];refine kG MW (cx _ _ _) trivial ?_;simp only [go_sem];refine Ac [7] (GV iu) ?_ ⟨trivial,⟨dG _,trivial⟩,trivial⟩ (by rw [Ab];simp [gD,ke,among,fB]) ?_
 ·simp only [go_sem,rr,rv,r0]
 rw [Ab];simp only [go_sem,gD,ke,rr,rv,bd,if_false,fL];refine kG (E9 (iR iu)) (cx _ _ _) ⟨dG _,trivial⟩ ?_;simp only [go_sem];refine Ac [9] (GV iQ) ?_ ⟨trivial,⟨dG _,trivial⟩,trivial⟩ (by rw [Ab];simp [gD,ke,among,fB]) ?_
 ·simp only [go_sem,rr,rv,r1]
 rw [Ab];simp only [go_sem,gD,ke,rr,rv,bd,if_false,fL];refine kG (E9 (iR iQ)) (cx _ _ _) ⟨dG _,trivial⟩ ?_;simp only [go_sem];have hN2:aD Tryz.prog 11 [.ps 4 (syms tx), .ps 1 (dp (oE++[iS (iR iu)])), .ps 5 (lits (iS (iR iQ)))] (.dT [.bool false, .int .i64 0]):=by
  have:=TE tx (oE++[iS (iR iu)]) (iS (iR iQ)) (QB _ (by decide) GM.2.2.1);rw [Ys3] at this;exact this
 have Kf:∀ b:Bool,bC (.dT [.bool b, .int .i64 0])=true:=fun _=>rfl;have eU2:dp (oE++[iS (iR iu)])=[.ps 5 [.agg [.bool false, .int .i64 (iR iu).head, .ps 2 ((iR iu).args.map Tm.aM), .int .i64 iu.head, .ps 2 (iu.args.map Tm.aM)]], .ps 5 (lits (iS (iR iu)))]:=rfl;refine Ac [3,8] hN2 ?_ ⟨dy _,fO _,cy _,trivial⟩ (by rw [Kf,if_pos rfl];exact A2 _ _ _) ?_
 ·simp only [go_sem,rr,rv,eU2]
 rw [Kf,if_pos rfl,Ge];simp only [go_sem];refine aG.go 1000 ?_;simp only [go_sem];refine aG.draw [⟨none,[],[11]⟩,⟨none,[],[11]⟩,⟨none,[],[11]⟩,⟨none,[],[11]⟩,⟨none,[],[11]⟩,⟨some 10,[10],[11]⟩,⟨none,[],[10,11]⟩,⟨none,[],[10]⟩,⟨some 11,[11],[10]⟩,⟨none,[11],[10]⟩,⟨none,[],[10]⟩,⟨none,[3,10],[]⟩] 10 12 mixed rfl rfl (by decide) ?_;simp only [go_sem,da];refine kG MW (cx _ _ _) trivial ?_;simp only [go_sem];refine kG (E9 iu) (by rw [r0];exact cx _ _ _) ⟨dG _,trivial⟩ ?_;simp only [go_sem];refine Ac [11] (GV iQ) ?_ ⟨trivial,⟨dG _,trivial⟩,trivial⟩ (by rw [Ab];simp [gD,ke,among,fB]) ?_
 ·simp only [go_sem,rr,rv,r1]
 rw [Ab];simp only [go_sem,gD,ke,rr,rv,bd,if_false,fL];refine kG (E9 (iR iQ)) (cx _ _ _) ⟨dG _,trivial⟩ ?_;simp only [go_sem];have hN3:aD Tryz.prog 11 [.ps 4 (syms tx), .ps 1 (dp (oE++[iS iu])), .ps 5 (lits (iS (iR iQ)))] (.dT [.bool true, .int .i64 0]):=by
  have:=TE tx (oE++[iS iu]) (iS (iR iQ)) (QB _ (by decide) GM.1);rw [Ysb] at this;exact this
 have eU3:dp (oE++[iS iu])=[.ps 5 [.agg [.bool false, .int .i64 (iR iu).head, .ps 2 ((iR iu).args.map Tm.aM), .int .i64 iu.head, .ps 2 (iu.args.map Tm.aM)]], .ps 5 (lits (iS iu))]:=rfl;refine Ac [3,10] hN3 ?_ ⟨dy _,fO _,cy _,trivial⟩ (by rw [Kf,if_pos rfl];exact A2 _ _ _) ?_
 ·simp only [go_sem,rr,rv,eU3]
 rw [Kf,if_pos rfl,Ge];simp only [go_sem];refine aG.go 1000 ?_;simp only [go_sem];have fJ:EM (iS iQ):=fun l hl=>by
  rw [aL.1 hl];exact ⟨by decide,by decide⟩
 have hE:=Zxb (iS iQ) (iS iQ) fJ fJ (by decide);rw [(Nh _ _).2 rfl] at hE;have hI:=Yu8 [0] [0] (by decide);rw [decide_eq_true rfl] at hI;refine aG.draw [.no, .no, .no, .no, .no, .no, .no, .no, .no, .no, .no,⟨none,[],[12]⟩,⟨none,[],[12]⟩,⟨some 12,[12],[]⟩] 12 13 mixed rfl rfl (by decide) ?_;simp only [go_sem,da];refine kG (E9 iQ) (by rw [r1];exact cx _ _ _) ⟨dG _,trivial⟩ ?_;simp only [go_sem];refine kG hE (cx _ _ _) ⟨cy _,cy _,trivial⟩ ?_;simp only [go_sem];have Xx:bC (.bool true)=true:=rfl;refine Ac [12] hI ?_ ⟨dq _,dq _,trivial⟩ (by rw [Xx,if_pos rfl];exact A2 _ _ _) ?_
 ·have e0:ints [0]=[.int .i64 0]:=rfl;simp only [go_sem,rr,rv,e0]
 rw [Xx,if_pos rfl,Ge];simp only [go_sem,beq_self_eq_true];refine aG.go 1000 ?_;simp only [go_sem]
theorem Ynf {g:List Sy} {es:List (List Li)} {c:List Li} (h:tF g es c=true):pE es=true∧qc c=true∧oK c=true∧(∀ r∈es,oK r=true∧qc r=true):=by
 unfold tF at h;split at h
 ·cases h
 ·rename_i hb;simp only [aB] at h;obtain ⟨⟨⟨h1,h2⟩,h3⟩,h4⟩:=h;refine ⟨h2,h3,h4,fun r hr=>?_⟩;have hn:¬ p6 r=true:=fun k=>hb ⟨(NM h2).1,bV.2 ⟨r,hr,k⟩⟩;unfold p6 at hn;simpa using hn
theorem YO {g:List Sy} {d:List Li} (hd:iN g d):iN g (qp d):=by
 obtain ⟨h1,h2,h3⟩:=Sl hd;rw [h3];exact Y9 h1 hd h2
end Go.Proofs
namespace Go.Proofs
open Go Go.dm
theorem Yhv {g:List Sy} {w:Wo} {es:List (List Li)} {c:List Li} (h:su es c) (h0:(cL g es c).2.2=0) (hw:dO g w=true) (kj:∀ x∈es, ∀ f,sW w f→bz w f x=true):∀ f,sW w f→bz w f (cL g es c).1=bz w f c:=by
 obtain ⟨rE,hx,_,_⟩:=JF h h0;have hi:=Dr h rE;have e1:cL g es c=eY (dN g (cm es)) 201 c []:=by unfold cL gH;exact if_neg (fun k=>k rE)
 rw [e1] at h0 ⊢;obtain ⟨more,a1,a2,a3,a4⟩:=U6 hw hi.2.1 201 c [] hi.1 h0;refine a4 fun k hk=>?_;obtain ⟨k1,k2⟩:=a2 k hk;refine kj _ ?_;have:k.toNat<es.length:=by omega
 simp [List.getD,this]
theorem Yye (w:Wo) (f:Int→Int) {v:Int} (h : 0≤v):(vr v).val w f=f v:=by
 unfold vr;rw [Tm.val,if_pos (by omega)];congr 1;omega
theorem UQ {w:Wo} {f:Int→Int} {r:Int→Int} (hr:∀ v,0≤r v) (c:List Li):bz w f (AO r c)=bz w (fun v=>f (r v)) c:=by
 unfold bz AO;rw [List.any_map];refine Yd3 fun l hl=>?_;simp only [Function.comp];unfold Li.holds Li.rn Tm.rn;simp only
 rw [Ds,Ds];simp only [Yye w f (hr _)]
theorem Yct {g:List Sy} {w:Wo} {d:List Li} (hs : 1≤w.size) (hd:iN g d):gL w (qp d)=gL w d:=by
 obtain ⟨h1,h2,h3⟩:=Sl hd;have hr:∀ v,0≤wW d v:=fun v=>by unfold wW;omega
 rw [h3,dU,Cg hs,Cg hs];constructor
 ·intro q f hf;have:=q (fun n=>f ((oQ d).getD n.toNat 0)) (fun v=>hf _);rw [UQ hr] at this;rw [← this];refine UA ?_;rw [My];refine fun l hl=>⟨MR (fun v hv=>?_) _ (h2 l hl).1,MR (fun v hv=>?_) _ (h2 l hl).2⟩
  all_goals
   have l1:=gB hv;have g1:=List.getElem_idxOf l1;unfold wW;rw [aR,cq,av l1,g1];rfl
 ·intro q f hf;rw [UQ hr];exact q _ fun v=>hf _
theorem Yxy {g:List Sy} {es:List (List Li)} (kj:∀ x∈es,iN g x) {d:List Li} (hd:iN g d) {k:Nat} {x:Nat×Nat} (h:nu k es d=some x):∃ r∈es,rT r d=some x.2:=by
 obtain ⟨i,hi,_,h2,h3,h4,_⟩:=Mh h;have hr:=kj _ (aC hi);refine ⟨_,aC hi,?_⟩;unfold oi at h3 h4;rw [if_neg (by simp [VX hr hd])] at h3 h4;cases hc:rT es[i] d with
 | none=>rw [hc] at h3;cases h3
 | some k =>
  rw [hc] at h4;simp only at h4;rw [show k=x.2 by omega]
theorem Yto {g:List Sy} {es:List (List Li)} (kj:∀ x∈es,iN g x) {d:List Li} (hd:iN g d) {k x:Nat} (h:kB k es d=some x):∃ r∈es,sG r d=true:=by
 obtain ⟨i,hi,_,h2,h3,_⟩:=Uu h;have hr:=kj _ (aC hi);refine ⟨_,aC hi,?_⟩;rw [Ykl hr hd] at h3;exact h3
theorem Ysp (k:Int) (W:Wk):(kE k W).d=W.d:=(KQ k W).1
theorem Yd9 {g:List Sy} {w:Wo} {es:List (List Li)} {c:List Li} (hw:dO g w=true) (h:su es c) (rE:cQ g (c :: es)=0) (kj:∀ x∈es, ∀ f,sW w f→bz w f x=true) {n:Nat} {W:Wk} (hI:IW g es (n+1) W) (h1:(dE (cP g es) W).1=1) :
  ∀ f,sW w f→bz w f (dE (cP g es) W).2.d=bz w f W.d:=by
 obtain ⟨fD,Eu⟩:=NN h rE hI.rt;intro f hf;rcases Gi g es W with ⟨_,e⟩ | ⟨_,_,e⟩ | ⟨_,h2,h3,e⟩ | ⟨_,h2,h3,x,h4,e⟩ | ⟨_,_,_,_,k,_,e⟩ | ⟨_,_,_,_,_,e⟩
 ·rw [e] at h1;exact absurd h1 (by simp)
 ·rw [e] at h1;exact absurd h1 (by simp)
 ·rw [e];simp only
  rw [(Nt _ _).1,TY];exact Yhv fD h2 hw kj f hf
 ·rw [e];simp only
  rw [Ysp];obtain ⟨r,hr,hB⟩:=Yxy (Ct h rE) hI.rt h4;exact Yef hw (Ct h rE r hr) hI.rt hB (kj r hr) hf
 ·rw [e] at h1;exact absurd h1 (by simp)
 ·rw [e] at h1;exact absurd h1 (by simp)
theorem Yf6 {g:List Sy} {es:List (List Li)} {c:List Li} (h:su es c) (h0:(iJ g es c).2=0) :
  cQ g (c :: es)=0∧iN g (iJ g es c).1.d∧((iJ g es c).1.gone=0∨(iJ g es c).1.gone=1∨(iJ g es c).1.gone=2)∧∀ w,dO g w=true →
   ((iJ g es c).1.gone=1→gL w (iJ g es c).1.d=true) ∧
   ((∀ x∈es,gL w x=true)→gL w c=gL w (iJ g es c).1.d∧((iJ g es c).1.gone≠0→gL w c=true)):=by
 by_cases rE:cQ g (c :: es)=0
 case neg=>exfalso;revert h0;unfold iJ;rw [if_pos rE];exact rE
 refine ⟨rE,?_⟩;have hend:∀ w,dO g w=true→(∀ x∈es,gL w x=true)→∃ (m:Nat) (X:Wk),IW g es m X∧(∀ f,sW w f→bz w f X.d=bz w f c)∧(dE (cP g es) X).1≠1∧rV g es 70 (xB c)=(dE (cP g es) X).2:=fun w hw kj=>by
  have hs:=(yL hw).2.1;have OP:∀ x∈es, ∀ f,sW w f→bz w f x=true:=fun x hx=>(Cg hs).1 (kj x hx);refine Qt h rE (P:=fun X=>∀ f,sW w f→bz w f X.d=bz w f c) (fun n W hI hp h1 f hf=>?_) 70 (xB c) (AX h rE) (fun f hf=>TY c);rw [Yd9 hw h rE OP hI h1 f hf];exact hp f hf
 have hF:iJ g es c=mL (rV g es 70 (xB c)):=by unfold iJ;rw [if_neg (by simp [rE])]
 obtain ⟨n,X,hI,h1,e⟩:=MU h rE 70 (xB c) (AX h rE);have hN:=Wx hI.rt;have Pr:=YO hI.rt;have hd:(rV g es 70 (xB c)).d=X.d:=by rw [e,KY h1]
 have key:∀ w,dO g w=true→(∀ x∈es,gL w x=true)→gL w c=gL w X.d:=fun w hw kj=>by
  have hs:=(yL hw).2.1;obtain ⟨m,Y,_,hY,k1,k2⟩:=hend w hw kj;have:Y.d=X.d:=by rw [← hd,k2,KY k1]
  rw [this] at hY;rw [dU,Cg hs,Cg hs];exact ⟨fun q f hf=>by rw [hY f hf];exact q f hf,fun q f hf=>by rw [← hY f hf];exact q f hf⟩
 have vw:∀ w,dO g w=true→gL w (qp X.d)=gL w X.d:=fun w hw=>Yct (yL hw).2.1 hI.rt;rw [hF,e] at h0 ⊢;rcases Gi g es X with ⟨q1,e⟩ | ⟨q1,q2,e⟩ | ⟨_,h2,h3,e⟩ | ⟨_,h2,h3,x,h4,e⟩ | ⟨q1,q2,q3,q4,k,q5,e⟩ | ⟨q1,q2,q3,q4,q5,e⟩
 ·rw [e];have eE:mL { X with gone:=1 }=(⟨qp X.d,X.u,1,X.sJ⟩,0):=by unfold mL;simp only [hI.e,hN];rfl
  simp only [eE];have ht:∀ w,dO g w=true→gL w X.d=true:=fun w hw=>(Cg (yL hw).2.1).2 fun f _=>Ybz q1;refine ⟨Pr,by simp,fun w hw=>⟨fun _=>by rw [vw w hw];exact ht w hw,fun kj=>⟨by rw [key w hw kj,vw w hw],fun _=>by rw [key w hw kj];exact ht w hw⟩⟩⟩
 ·exfalso;rw [e] at h0;unfold mL at h0;simp only at h0;rw [if_pos q2] at h0;exact q2 h0
 ·rw [e] at h1;exact absurd rfl h1
 ·rw [e] at h1;exact absurd rfl h1
 ·rw [e];have eE:mL { X with gone:=2,sJ:=(k:Int) }=(⟨qp X.d,X.u,2,(k:Int)⟩,0):=by unfold mL;simp only [hI.e,hN];rfl
  simp only [eE];refine ⟨Pr,by simp,fun w hw=>⟨fun k=>absurd k (by decide),fun kj=>⟨by rw [key w hw kj,vw w hw],fun _=>?_⟩⟩⟩;rw [key w hw kj];have hs:=(yL hw).2.1;obtain ⟨r,hr,hB⟩:=Yto (Ct h rE) hI.rt q5;exact (Cg hs).2 fun f hf=>Yc0 hw (Ct h rE r hr) hI.rt hB ((Cg hs).1 (kj r hr)) hf
 ·rw [e];have eE:mL X=(⟨qp X.d,X.u,0,X.sJ⟩,0):=by unfold mL;simp only [hI.e,hN,hI.gone];rfl
  simp only [eE];exact ⟨Pr,by simp,fun w hw=>⟨fun k=>absurd k (by decide),fun kj=>⟨by rw [key w hw kj,vw w hw],fun k=>absurd rfl k⟩⟩⟩
section
variable {r:Int→Int} {p:Int→Prop}
end
end Go.Proofs
namespace Go.Proofs
open Go Go.dm
attribute [local go_sem] Nat.reduceAdd Nat.reduceSub Nat.reduceMul Nat.reduceLeDiff Nat.reduceEqDiff Nat.reduceBEq Nat.reduceLT Nat.le_refl Int.natCast_zero Nat.sub_zero List.length_map Int.toNat_natCast Int.natCast_one Int.reduceEq Int.reduceLT Int.reduceLE Int.reduceNe Int.sub_zero Int.zero_add Int.toNat_one
theorem Yvg {g:List Sy} {es:List (List Li)} {c:List Li} (h:su es c) (h0:(iJ g es c).2≠0):(iJ g es c).1=⟨[],[],0,0⟩:=by
 rcases Ybx (g:=g) h with ⟨h1,h2⟩ | ⟨hw,n,X,hI,⟨q1,e⟩ | ⟨q1,q2,e⟩ | ⟨q1,q2,q3,q4,k,q5,e⟩ | ⟨q1,q2,q3,q4,q5,e⟩⟩
 ·rw [h2]
 ·rw [e] at h0;exact absurd rfl h0
 ·rw [e]
 ·rw [e] at h0;exact absurd rfl h0
 ·rw [e] at h0;exact absurd rfl h0
theorem Wm {s:Int} (h1 : 1≤s) (h2:s≤4):∀ (k:Nat) (n:Int),1≤n→n≤2800→1≤jL s 700 k n
 | 0,n,hn,_=>by rw [jL];exact hn
 | k+1,n,hn,h=>by
  rw [jL];split
  ·have h3:n*1≤n*s:=du h1 (by omega);have h4:n*s≤n*4:=du h2 (by omega);rw [dQ (by omega)];exact Wm h1 h2 k _ (by omega) (by omega)
  ·exact hn
theorem SN {w:Wo} (h1 : 1≤w.size) (h2:w.size≤4) (c:List Li) : 1≤en w c 700∧en w c 700≤701:=by
 have:=Wm h1 h2 (dg c).length 1 (by omega) (by omega);unfold en;omega
set_option maxHeartbeats 1000000 in
theorem Zjg (g:List Sy) (w:Wo) (es:List (List Li)) (c:List Li) (f1:∀ x∈es,qe x) (f2:qe c) (ig:c.length≤2600000000000) {W:World} {vs:Array Value}
  (h2:vs.size=([.ps 4 (syms g),w.aM, .ps 1 (dp es), .ps 5 (lits c)]:List ah).length)
  (h3:∀ k,k<([.ps 4 (syms g),w.aM, .ps 1 (dp es), .ps 5 (lits c)]:List ah).length→cf W sX tP (vs.getD k undef) (([.ps 4 (syms g),w.aM, .ps 1 (dp es), .ps 5 (lits c)]:List ah).getD k .undef)) :
  Calls Tryz.prog 4 vs W fun e w'=>e = .returned (.bool true)∧RowKit.Below W.heap.size W w':=by
 refine Ybh (args:=[.ps 4 (syms g),w.aM, .ps 1 (dp es), .ps 5 (lits c)]) (rs:=[.tmp 8]) (m:=140) 1000 Tryz.func4 rfl rfl rfl rfl ?_ (fun x hx=>by cases hx) h2 h3;clear h2 h3;simp only [go_sem,ta];refine aq.bS [] (Ykk g es c ig) (cx _ _ _) (by simp [go_sem,dy,fO,cy]) ?_;simp only [bC,bN,bL,if_true];refine aG.go 1000 ?_;cases OS:tF g es c with
 | false=>simp only [go_sem]
 | true =>
 obtain ⟨he,hc,apb,hr⟩:=Ynf OS;have fD:=Yxl he hc f1 f2;have hle:=(NM he).1;have hF:=NS g es c fD;have pG:=Yvg (g:=g) fD;have hH:=Yf6 (g:=g) fD;generalize iJ g es c=z at *
 obtain ⟨⟨d,u,gn,wh⟩,e⟩:=z;simp only at pG hH;simp only [go_sem,ae];rw [← ta];refine aq.bS [] (Zx5 w) (cx _ _ _) (by simp [go_sem,xb]) ?_;simp only [bC,bN,bL,if_true];refine aG.go 1000 ?_;cases hwf:w.few with
 | false=>simp only [go_sem]
 | true =>
 unfold Si.aM at hF;simp only at hF;simp only [go_sem];refine aq.bS [] hF (cx _ _ _) ⟨dy _,fO _,cy _,trivial⟩ ?_;rw [je];simp only [ite_self];refine aG.go 1000 ?_;by_cases h0:e=0
 case neg =>
  have hb:=pG h0;injection hb with b1 b2 b3 b4;subst b1 b2 b3 b4;simp only [go_sem,h0];refine aq.bS [] (EX) (cx _ _ _) (by simp [go_sem, ]) ?_;simp only [bC,bN,bL,if_true];refine aG.go 1000 ?_;simp only [go_sem,fR,iZ,aS,show IntKind.i64.wrap 0=0 from rfl,decide_true]
 subst h0;obtain ⟨rE,hd,BD,hW⟩:=hH rfl;have kj:=Ct fD rE;have Hv:iN g c:=(Dr fD rE).1;have fJ:∀ {d:List Li},iN g d→∀ (i:Nat) (h:i<d.length),d[i].l.size<2 ^ 62∧d[i].r.size<2 ^ 62:=fun hd i h=>by
  obtain ⟨a1,a2⟩:=uE hd (aC h);have b1:=(p5 a1).2;have b2:=(p5 a2).2;omega
 have hM:∀ {d:List Li},iN g d→aD Tryz.prog 17 [w.aM, .ps 5 (lits d), .int .i64 700] (.int .i64 (en w d 700)):=fun hd=>by
  obtain ⟨d1,d2,d3⟩:=UH hd;exact Zrk w _ 700 (by decide) (by omega) d1 (by omega)
 have hK:∀ {d:List Li},iN g d→aD Tryz.prog 16 [.ps 4 (syms g), .ps 5 (lits d)] (.int .i64 0):=fun hd=>by
  have:=Znr g _ (fJ hd);rw [hd.1] at this;exact this
 simp only [go_sem];refine aG.draw [] 2 2 mixed rfl rfl (by decide) ?_;simp only [go_sem,da,ae];rw [← ta];refine kG (Zq1 g w) (cx _ _ _) (by simp [go_sem,xb,dy]) ?_;cases Ib:dO g w with
 | false =>
  simp only [go_sem,da];refine aG.go 1000 ?_;simp only [go_sem];refine aG.draw [] 2 2 mixed rfl rfl (by decide) ?_;simp only [go_sem,da];refine kG EX (cx _ _ _) trivial ?_;simp only [go_sem,da];refine kG (hK Hv) (cx _ _ _) (by simp [go_sem,dy,cy]) ?_;simp only [go_sem,da];refine kG (hK hd) (cx _ _ _) (by simp [go_sem,dy,cy]) ?_;simp only [go_sem];refine aG.go 1000 ?_;simp only [go_sem,decide_true,beq_self_eq_true]
 | true =>
 obtain ⟨q1,q2,q3,_⟩:=yL Ib;obtain ⟨hWt,hWe⟩:=hW w Ib;have mc:=SN q2 q3 c;have md:=SN q2 q3 d;simp only [go_sem,da];refine kG (hK Hv) (cx _ _ _) (by simp [go_sem,dy,cy]) ?_;simp only [go_sem,da];refine kG (hK hd) (cx _ _ _) (by simp [go_sem,dy,cy]) ?_;simp only [go_sem,da,ae];rw [← ta];refine kG (hM Hv) (cx _ _ _) (by simp [go_sem,xb,cy]) ?_;simp only [go_sem,da,ae];rw [← ta];refine kG (hM hd) (cx _ _ _) (by simp [go_sem,xb,cy]) ?_;have H8:IntKind.i64.wrap (en w c 700+en w d 700)=en w c 700+en w d 700:=dQ (by omega);by_cases hm : 700<en w c 700+en w d 700
 ·simp only [go_sem,H8,hm];refine aG.go 1000 ?_;simp only [go_sem];refine aG.draw [] 2 2 mixed rfl rfl (by decide) ?_;simp only [go_sem,da];refine kG EX (cx _ _ _) trivial ?_;simp only [go_sem,da];refine kG (hK Hv) (cx _ _ _) (by simp [go_sem,dy,cy]) ?_;simp only [go_sem,da];refine kG (hK hd) (cx _ _ _) (by simp [go_sem,dy,cy]) ?_;simp only [go_sem];refine aG.go 1000 ?_;simp only [go_sem,decide_true,beq_self_eq_true]
 have hmc:en w c 700≤700:=by omega
 have Ks:en w d 700≤700:=by omega
 have hHc:=Le Ib Hv hmc;have XH:=Le Ib hd Ks;simp only [go_sem,H8,hm];refine aG.upto 1000 ?_;simp only [go_sem];refine aG.split ?_;refine aG.mid 1000 (fe 144 [(0, .ps 4 (syms g)),(2, .ps 1 (dp es)),(3, .ps 5 (lits c)),(5, .ptr 0 0),(8, .bool false),(9, .ptr 1 0)]) [some (.var [.int .i64 w.size, .ps 1 (jh w.rows)]),some (.var [.ps 5 (lits d), .ps 1 (ints u), .int .i64 gn, .int .i64 wh])] (au _) ?_ ?_
 ·by_cases g1:gn=1
  ·simp only [go_sem,g1,ae];rw [← ta];refine aq.bS [] (XH) (cx _ _ _) (by simp [go_sem,xb,cy]) ?_;simp only [bC,bN,bL,if_true];refine aG.go 1000 ?_;rw [hWt g1];simp only [go_sem,dy,fO,cy,dq,rN,g1]
  ·simp only [go_sem,g1,dy,fO,cy,dq,rN]
 refine aG.go 1000 ?_;simp only [go_sem];refine aG.cO (ι:={i:Nat // i≤es.length∧∀ x∈es.take i,gL w x=true}) 1000 (fun i=>fe 144 [(0, .ps 4 (syms g)),(2, .ps 1 (dp es)),(3, .ps 5 (lits c)),(5, .ptr 0 0),(8, .bool false),(9, .ptr 1 0),(11, .int .i64 i.1)])
  (fun _=>[some (.var [.int .i64 w.size, .ps 1 (jh w.rows)]),some (.var [.ps 5 (lits d), .ps 1 (ints u), .int .i64 gn, .int .i64 wh])]) (fun i=>es.length - i.1) ⟨0,au _,fun k hk=>(by cases hk)⟩ ?_ (fun _=>au _) ?_
 ·simp only [go_sem,dq,cy,rN,fO,dy]
 ·rintro ⟨i,hi,aN⟩;by_cases bA:(i:Int)<es.length
  ·have aU:i<es.length:=by omega
   have rh:IntKind.i64.wrap ((i:Int)+1)=((i+1:Nat):Int):=by rw [dQ (by omega)];omega
   have g2:=Ae aU;have k4:=kj _ (aC aU);have rf:es.take (i+1)=es.take i++[es[i]]:=by rw [c9,av aU,gK]
   generalize es[i]=x at *
   have k8:=hM k4;simp only [go_sem,bA,m9];refine aG.draw [] 2 2 mixed rfl rfl (by decide) ?_;simp only [go_sem,da,m9,bA,g2]
   (repeat ((with_reducible refine And.intro ?_ ?_); ·omega))
   refine kG (hK k4) (cx _ _ _) (by simp [go_sem,dy,cy]) ?_;simp only [go_sem,da,m9,bA,g2,ae];rw [← ta]
   (repeat ((with_reducible refine And.intro ?_ ?_); ·omega))
   refine kG k8 (cx _ _ _) (by simp [go_sem,xb,cy]) ?_;by_cases Ks : 700<en w x 700
   ·simp only [go_sem,Ks];refine aG.go 1000 ?_;simp only [go_sem];refine aq.bS [] (EX) (cx _ _ _) (by simp [go_sem, ]) ?_;simp only [bC,bN,bL,if_true];refine aG.go 1000 ?_;simp only [go_sem];refine aG.go 1000 ?_;simp only [go_sem]
   ·have k9:=Le Ib k4 (by omega);simp only [go_sem,Ks,da,m9,bA,g2,ae];rw [← ta]
    (repeat ((with_reducible refine And.intro ?_ ?_); ·omega))
    refine kG k9 (cx _ _ _) (by simp [go_sem,xb,cy]) ?_;simp only [go_sem];refine aG.go 1000 ?_;cases hh:gL w x with
    | false =>
     simp only [go_sem];refine aq.bS [] (EX) (cx _ _ _) (by simp [go_sem, ]) ?_;simp only [bC,bN,bL,if_true];refine aG.go 1000 ?_;simp only [go_sem];refine aG.go 1000 ?_;simp only [go_sem]
    | true =>
     simp only [go_sem];refine ⟨⟨i+1,aU,fun y hy=>?_⟩,?_,by simp only;omega⟩
     ·rw [rf] at hy;rcases aY.1 hy with hy | hy
      ·exact aN y hy
      ·rw [aL.1 hy];exact hh
     ·simp only [go_sem,dq,cy,rN,fO,dy,rh]
  ·have dZ:i=es.length:=by omega
   subst dZ;rw [bZ] at aN;obtain ⟨e1,e2⟩:=hWe aN;simp only [go_sem,bA,m9];refine aG.go 1000 ?_;simp only [go_sem,ae];rw [← ta];refine aq.bS [] (hHc) (cx _ _ _) (by simp [go_sem,xb,cy]) ?_;simp only [bC,bN,bL,if_true];refine aG.go 1000 ?_;simp only [go_sem];refine aq.bS [] (EX) (cx _ _ _) (by simp [go_sem, ]) ?_;simp only [bC,bN,bL,if_true];refine aG.go 1000 ?_;simp only [go_sem,ae];rw [← ta];refine aq.bS [] (XH) (cx _ _ _) (by simp [go_sem,xb,cy]) ?_;simp only [bC,bN,bL,if_true];refine aG.go 1000 ?_;rw [← e1];by_cases g1:gn=0
   ·simp only [go_sem,g1,beq_self_eq_true,decide_true]
   ·simp only [go_sem,g1,beq_self_eq_true,decide_true,e2 g1]
end Go.Proofs
