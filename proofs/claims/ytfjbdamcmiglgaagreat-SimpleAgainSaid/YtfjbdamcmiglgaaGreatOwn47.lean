/- Part 47 of my own framework and of the walks of functions: Cr, Da, Db, Dc, Bc, Dd, De, Ea, Eb, Ec, Ed, Ee. -/
import Derived.Test.YtfjbdamcmiglgaaGreatOwn46
set_option linter.unusedVariables false
set_option linter.unusedSectionVars false
set_option linter.unusedSimpArgs false
namespace Go.Proofs
open Go Go.c8
attribute [local go_sem] Nat.reduceAdd Nat.reduceSub Nat.reduceMul Nat.reduceLeDiff Nat.reduceEqDiff Nat.reduceBEq Nat.reduceLT Nat.le_refl Int.natCast_zero Nat.sub_zero List.length_map Int.toNat_natCast Int.natCast_one Int.reduceEq Int.reduceLT Int.reduceLE Int.reduceNe Int.sub_zero Int.zero_add Int.toNat_one
theorem Ii (b sz:Nat) (l:List ae):(jo b sz l).cells=[jo b sz l]:=by cases l<;>rfl
theorem V0:((2:Nat):Int)=2:=rfl
theorem V1:((3:Nat):Int)=3:=rfl
theorem Jm:((4:Nat):Int)=4:=rfl
theorem VY:Int.toNat 2=2:=rfl
theorem VZ:Int.toNat 3=3:=rfl
theorem Iq {Fs:List (Wk→Int×Wk)} {W:Wk} {k:Nat} (hk:k<Fs.length) (h:(Fs[k] W).1=0):dE (Fs.drop k) W=dE (Fs.drop (k+1)) W:=by
 rw [ao hk,dE,if_pos h]
theorem Ir {Fs:List (Wk→Int×Wk)} {W:Wk} {k:Nat} (hk:k<Fs.length) (h:¬ (Fs[k] W).1=0):dE (Fs.drop k) W=Fs[k] W:=by
 rw [ao hk,dE,if_neg h]
set_option maxHeartbeats 2000000 in
theorem Yvx (g:List Sy) (es:List (List Li)) (c:List Li) (I:Nat→Wk→Prop) (oO:∀ x∈c :: es,oL x) (hc:cF g (c :: es)=0→lT c) (hl:es.length<1000000) (GD:cF g (c :: es)=0→∀ x∈es,lT x) (Js:cF g (c :: es)=0→I 70 (wg c))
  (hI:∀ n W,I n W→(∃ m,n=m+1)∧lT W.d∧qC es W.d∧((cB g es W.d).2.2=0→lT (cB g es W.d).1)∧W.u.length+(cB g es W.d).2.1.length<1000000)
  (oe:∀ n W,I (n+1) W→(dE (cS g es) W).1=1→I n (dE (cS g es) W).2)
  (gB:∀ n W,I n W→(dE (cS g es) W).1≠1→(dE (cS g es) W).2.e=0→lT (dE (cS g es) W).2.d∧Tm.bF (cP (dE (cS g es) W).2.d)<99999999) :
  aJ Tryz.prog 9 [.ps 4 (syms g), .ps 1 (da es), .ps 5 (lits c)] (.dA [(ix g es c).1.aO, .int .i64 (ix g es c).2]):=by
 refine aJ.begin (rs:=[.cell 6 28, .tmp 7]) (m:=96) 1000 Tryz.func9 rfl rfl rfl (by decide) ⟨⟨cz _,dB _,trivial,trivial,trivial⟩,trivial,trivial⟩ ?_
 obtain ⟨Z,hZ⟩:∃ Z,ix g es c=Z:=⟨_,rfl⟩
 rw [hZ]
 unfold ix at hZ
 simp only [go_sem]
 refine ZW es hl (fun he=>?_) (fun he=>?_) (fun he=>?_)
 case' refine_1 =>
  refine aK.go 1000 ?_
  simp only [go_sem]
  refine (Mb es c hl).1 he ?_
  refine aK.go 1000 ?_
  simp only [go_sem,nM]
 case' refine_2 =>
  refine aK.go 1000 ?_
  simp only [go_sem]
  refine (Mb es c hl).2.1 he ?_
  refine aK.go 1000 ?_
  simp only [go_sem,nM]
 case' refine_3 =>
  refine aK.go 1000 ?_
  simp only [go_sem]
  refine (Mb es c hl).2.2 he ?_
  refine aK.go 1000 ?_
  simp only [go_sem,nM]
 all_goals
  obtain ⟨L,hL⟩:∃ L,c :: es=L:=⟨_,rfl⟩
  have hlen:es.length+1=L.length:=by rw [← hL];rfl
  have jI:L.length<2000000:=by omega
  rw [hL,hlen]
  rw [hL] at oO hZ Js GD hc
  clear he
  refine aK.dc (ι:={i:Nat // i≤L.length∧cF g (L.drop i)=cF g L}) 1000 (fun i=>f_ 99 [(0, .ps 4 (syms g)),(1, .ps 1 (da es)),(2, .ps 5 (lits c)),(6, .ptr 0 0),(7, .int .i64 0),(21, .ps 1 (da L)),(22, .int .i64 L.length),(23, .int .i64 i.1)])
   (fun _=>[some (.var [.aU, .aU, .int .i64 0, .int .i64 0])]) (fun i=>L.length - i.1) ⟨0,by simp⟩ ?_ (fun _=>av _) ?_
  ·simp only [go_sem,dK,fy,cz]
  ·rintro ⟨i,hi,aQ⟩
   by_cases bG:(i:Int)<L.length
   ·have aZ:i<L.length:=by omega
    have hd:cF g (L.drop i)=if bf g L[i]≠0 then bf g L[i] else cF g (L.drop (i+1)):=by
     rw [ao aZ];rfl
    simp only [go_sem,bG,nM,Ae aZ]
    (repeat ((with_reducible refine And.intro ?_ ?_); ·omega))
    refine aq.bV [] (Fu g L[i] (oO _ (aE aZ))) (cJ _ _ _) (by simp [go_sem,dK,cz]) ?_;simp only [bP,bY,bX,if_true];refine aK.go 1000 ?_
    by_cases c0:bf g L[i]=0
    ·simp only [go_sem,c0]
     refine ⟨⟨i+1,aZ,by rw [← aQ,hd,if_neg (by simp [c0])]⟩,?_,by simp only;omega⟩
     simp only [go_sem,dK,fy,cz]
     rw [eC (by omega)];rfl
    ·simp only [go_sem,c0]
     refine aK.go 1000 ?_
     rw [hd,if_pos c0] at aQ
     rw [if_pos (by rw [← aQ];exact c0)] at hZ
     subst hZ
     simp only [go_sem,aQ,Si.aO]
     exact ⟨rfl,rfl⟩
   ·have dV:i=L.length:=by omega
    subst dV
    rw [aV,cF] at aQ
    rw [if_neg (by rw [← aQ];simp)] at hZ
    have Gu:=GD aQ.symm
    have Js:=Js aQ.symm
    have hT:=UB c (hc aQ.symm)
    simp only [go_sem,bG]
    refine aK.go 1000 ?_
    simp only [go_sem]
    refine aq.bV [] hT (cJ _ _ _) ⟨cz _,trivial⟩ ?_
    rw [jj];simp only [ite_self]
    refine aK.go 1000 ?_
    simp only [go_sem]
    refine ⟨rfl,rfl,rfl,rfl,?_⟩
    refine aK.im (ι:={q:Nat×Wk // I q.1 q.2∧o7 (vw g es q.1 q.2)=Z}) 1000 (fun _=>f_ 99 [(6, .ptr 0 0),(7, .int .i64 0),(11, .ptr 1 0),(12, .os 2 0 4 1)])
     (fun q=>rL (some (.var [.aU, .aU, .int .i64 0, .int .i64 0])) g es q.1.2) (fun q=>q.1.1) ⟨(70,wg c),Js,hZ⟩ [] ?_ (fun _=>av _) ?_
    ·refine jb rfl ?_
     unfold rL kK wg
     simp only [go_sem,fy,dB,sP,dK,cz,cI (fy _),cI (dB _),cI (dK _),cI (cz _),show ints []=[] from rfl,uW,tY]
    ·rintro ⟨⟨n,W⟩,xD,hF⟩
     simp only at xD hF
     obtain ⟨⟨n,rfl⟩,k1,k2,k3,k4⟩:=hI n W xD
     rw [vw] at hF
     unfold rL
     simp only [go_sem]
     refine aK.dc (ι:={k:Nat // k≤4∧dE ((cS g es).drop k) W=dE (cS g es) W}) 1000 (fun k=>f_ 99 [(6, .ptr 0 0),(7, .int .i64 0),(11, .ptr 1 0),(12, .os 2 0 4 1),(50, .os 2 0 4 1),(51, .int .i64 4),(52, .int .i64 k.1)])
      (fun _=>rL (some (.var [.aU, .aU, .int .i64 0, .int .i64 0])) g es W) (fun k=>4 - k.1) ⟨0,av _,rfl⟩ ?_ (fun _=>av _) ?_
     ·unfold rL kK
      simp only [go_sem,fy,dB,sP,dK,cz]
      rfl
     rintro ⟨k,hk,aQ⟩
     have eE:k=0∨k=1∨k=2∨k=3∨k=4:=by omega
     rcases eE with rfl | rfl | rfl | rfl | rfl
     ·have fT:=ZL g es W k1
      have sX:=ZV W
      have nT:(gZ W).1=0→dE ((cS g es).drop 1) W=dE (cS g es) W:=fun h=>by rw [← aQ];exact (Iq (Fs:=cS g es) (k:=0) (show 0<4 by decide) h).symm
      have sB:¬ (gZ W).1=0→dE (cS g es) W=gZ W:=fun h=>by rw [← aQ];exact Ir (Fs:=cS g es) (k:=0) (show 0<4 by decide) h
      generalize gZ W=z at *
      obtain ⟨z1,z2⟩:=z
      unfold mM at sX
      simp only [false_and,true_and,false_or,or_false] at sX nT sB
      unfold rL
      simp only [go_sem,bC,bm]
      refine ⟨by omega,I7 (o:=(some (.var [.aU, .aU, .int .i64 0, .int .i64 0]))) (g:=g) (es:=es) (W:=W) (z:=(z1,z2)) fT ?_ (fun h=>?_) (fun h=>?_)⟩
      ·rcases sX with ⟨rfl,rfl⟩ | rfl
       ·unfold rL
        refine aK.go 1000 ?_
        simp only [go_sem]
        refine ⟨⟨1,by omega,nT rfl⟩,?_,by simp only;omega⟩
        unfold kK
        simp only [go_sem,fy,dB,sP,dK,cz,cI (fy _),cI (dB _),cI (dK _),cI (cz _)]
        all_goals rfl
       ·have hsc:=sB (by decide)
        have pb:=gB (n+1) W xD (by rw [hsc];simp)
        rw [hsc] at pb hF
        rw [if_neg (by simp)] at hF
        simp only at pb hF
        unfold rL
        refine aK.go 1000 ?_
        simp only [go_sem]
        refine aK.go 1000 ?_
        simp only [go_sem]
        refine aK.go 1000 ?_
        unfold o7 at hF
        by_cases he:z2.e=0
        ·rw [if_neg (by simp [he])] at hF
         have gB:=pb he
         have CZ:=IK z2.d gB.1 gB.2
         unfold kK
         simp only [go_sem,he]
         refine aq.bV [] CZ (cJ _ _ _) ⟨cz _,trivial⟩ ?_
         rw [jj];simp only [ite_self]
         refine aK.go 1000 ?_
         by_cases hn:(mN z2.d).2=0
         ·rw [if_neg (by simp [hn])] at hF
          simp only [go_sem,hn]
          refine aK.draw [.no, .no, .no, .no, .no, .no, .no, .no, .no, .no, .no, .no, .no, .no,⟨none,[0],[]⟩] 4 4 mixed rfl rfl (by decide) ?_
          simp only [go_sem,dC,Ii,xS]
          refine aK.go 1000 ?_
          simp only [go_sem,xS]
          subst hF
          refine ⟨⟨wm _ _ _,?_,cJ _ _ _⟩,rfl⟩
          rw [sn rfl rfl];trivial
         ·rw [if_pos hn] at hF
          subst hF
          simp only [go_sem,hn,Si.aO]
          exact ⟨rfl,rfl⟩
        ·rw [if_pos he] at hF
         subst hF
         unfold kK
         simp only [go_sem,he]
         refine aK.go 1000 ?_
         simp only [go_sem,he]
         refine aK.draw [.no,⟨none,[],[0]⟩,⟨none,[],[0]⟩,⟨none,[],[0]⟩,⟨none,[],[0]⟩,⟨none,[0],[]⟩] 4 4 mixed rfl rfl (by decide) ?_
         simp only [go_sem,dC]
         refine aK.go 1000 ?_
         simp only [go_sem,Si.aO]
         exact ⟨rfl,rfl⟩
      ·simp only at h
       subst h
       simp at sX
      ·simp only at h
       subst h
       simp at sX
     ·have fT:=Yly g es W k2 k3 k4
      have sX:=Ynm g es W
      have nT:(jP g es W).1=0→dE ((cS g es).drop 2) W=dE (cS g es) W:=fun h=>by rw [← aQ];exact (Iq (Fs:=cS g es) (k:=1) (show 1<4 by decide) h).symm
      have sB:¬ (jP g es W).1=0→dE (cS g es) W=jP g es W:=fun h=>by rw [← aQ];exact Ir (Fs:=cS g es) (k:=1) (show 1<4 by decide) h
      generalize jP g es W=z at *
      obtain ⟨z1,z2⟩:=z
      unfold mM at sX
      simp only [false_and,true_and,false_or,or_false] at sX nT sB
      unfold rL
      simp only [go_sem,bC,bm]
      refine ⟨by omega,I7 (o:=(some (.var [.aU, .aU, .int .i64 0, .int .i64 0]))) (g:=g) (es:=es) (W:=W) (z:=(z1,z2)) fT ?_ (fun h=>?_) (fun h=>?_)⟩
      ·rcases sX with ⟨rfl,rfl⟩ | rfl | rfl
       ·unfold rL
        refine aK.go 1000 ?_
        simp only [go_sem]
        refine ⟨⟨2,by omega,nT rfl⟩,?_,by simp only;omega⟩
        unfold kK
        simp only [go_sem,fy,dB,sP,dK,cz,cI (fy _),cI (dB _),cI (dK _),cI (cz _)]
        all_goals rfl
       ·have hsc:=sB (by decide)
        have uu:=oe n W xD (by rw [hsc])
        rw [hsc] at uu hF
        rw [if_pos rfl] at hF
        unfold rL
        refine aK.go 1000 ?_
        simp only [go_sem]
        refine ⟨⟨(n,z2),uu,hF⟩,[],jb rfl ?_,by simp only;omega⟩
        unfold kK
        simp only [go_sem,fy,dB,sP,dK,cz,cI (fy _),cI (dB _),cI (dK _),cI (cz _)]
       ·have hsc:=sB (by decide)
        have pb:=gB (n+1) W xD (by rw [hsc];simp)
        rw [hsc] at pb hF
        rw [if_neg (by simp)] at hF
        simp only at pb hF
        unfold rL
        refine aK.go 1000 ?_
        simp only [go_sem]
        refine aK.go 1000 ?_
        simp only [go_sem]
        refine aK.go 1000 ?_
        unfold o7 at hF
        by_cases he:z2.e=0
        ·rw [if_neg (by simp [he])] at hF
         have gB:=pb he
         have CZ:=IK z2.d gB.1 gB.2
         unfold kK
         simp only [go_sem,he]
         refine aq.bV [] CZ (cJ _ _ _) ⟨cz _,trivial⟩ ?_
         rw [jj];simp only [ite_self]
         refine aK.go 1000 ?_
         by_cases hn:(mN z2.d).2=0
         ·rw [if_neg (by simp [hn])] at hF
          simp only [go_sem,hn]
          refine aK.draw [.no, .no, .no, .no, .no, .no, .no, .no, .no, .no, .no, .no, .no, .no,⟨none,[0],[]⟩] 4 4 mixed rfl rfl (by decide) ?_
          simp only [go_sem,dC,Ii,xS]
          refine aK.go 1000 ?_
          simp only [go_sem,xS]
          subst hF
          refine ⟨⟨wm _ _ _,?_,cJ _ _ _⟩,rfl⟩
          rw [sn rfl rfl];trivial
         ·rw [if_pos hn] at hF
          subst hF
          simp only [go_sem,hn,Si.aO]
          exact ⟨rfl,rfl⟩
        ·rw [if_pos he] at hF
         subst hF
         unfold kK
         simp only [go_sem,he]
         refine aK.go 1000 ?_
         simp only [go_sem,he]
         refine aK.draw [.no,⟨none,[],[0]⟩,⟨none,[],[0]⟩,⟨none,[],[0]⟩,⟨none,[],[0]⟩,⟨none,[0],[]⟩] 4 4 mixed rfl rfl (by decide) ?_
         simp only [go_sem,dC]
         refine aK.go 1000 ?_
         simp only [go_sem,Si.aO]
         exact ⟨rfl,rfl⟩
      ·simp only at h
       subst h
       have hsc:=sB (by decide)
       have uu:=oe n W xD (by rw [hsc])
       rw [hsc] at uu hF
       rw [if_pos rfl] at hF
       refine aK.go 1000 ?_
       simp only [go_sem]
       refine ⟨⟨(n,z2),uu,hF⟩,[(3,4),(4,3)],jb rfl ?_,by simp only;omega⟩
       unfold kK
       simp only [go_sem,fy,dB,sP,dK,cz,cI (fy _),cI (dB _),cI (dK _),cI (cz _)]
      ·simp only at h
       subst h
       have hsc:=sB (by decide)
       have uu:=oe n W xD (by rw [hsc])
       rw [hsc] at uu hF
       rw [if_pos rfl] at hF
       refine aK.go 1000 ?_
       simp only [go_sem]
       refine ⟨⟨(n,z2),uu,hF⟩,[(3,7),(7,3)],jb rfl ?_,by simp only;omega⟩
       unfold kK
       simp only [go_sem,fy,dB,sP,dK,cz,cI (fy _),cI (dB _),cI (dK _),cI (cz _)]
     ·have fT:=Yth g es W Gu hl k1 (by omega)
      have sX:=Ytu es W
      have nT:(l7 es W).1=0→dE ((cS g es).drop 3) W=dE (cS g es) W:=fun h=>by rw [← aQ];exact (Iq (Fs:=cS g es) (k:=2) (show 2<4 by decide) h).symm
      have sB:¬ (l7 es W).1=0→dE (cS g es) W=l7 es W:=fun h=>by rw [← aQ];exact Ir (Fs:=cS g es) (k:=2) (show 2<4 by decide) h
      generalize l7 es W=z at *
      obtain ⟨z1,z2⟩:=z
      unfold mM at sX
      simp only [false_and,true_and,false_or,or_false] at sX nT sB
      unfold rL
      simp only [go_sem,bC,bm,V0,V1,Jm,VY,VZ]
      refine I7 (o:=(some (.var [.aU, .aU, .int .i64 0, .int .i64 0]))) (g:=g) (es:=es) (W:=W) (z:=(z1,z2)) fT ?_ (fun h=>?_) (fun h=>?_)
      ·rcases sX with ⟨rfl,rfl⟩ | rfl
       ·unfold rL
        refine aK.go 1000 ?_
        simp only [go_sem]
        refine ⟨⟨3,by omega,nT rfl⟩,?_,by simp only;omega⟩
        unfold kK
        simp only [go_sem,fy,dB,sP,dK,cz,cI (fy _),cI (dB _),cI (dK _),cI (cz _)]
        all_goals rfl
       ·have hsc:=sB (by decide)
        have uu:=oe n W xD (by rw [hsc])
        rw [hsc] at uu hF
        rw [if_pos rfl] at hF
        unfold rL
        refine aK.go 1000 ?_
        simp only [go_sem]
        refine ⟨⟨(n,z2),uu,hF⟩,[],jb rfl ?_,by simp only;omega⟩
        unfold kK
        simp only [go_sem,fy,dB,sP,dK,cz,cI (fy _),cI (dB _),cI (dK _),cI (cz _)]
      ·simp only at h
       subst h
       have hsc:=sB (by decide)
       have uu:=oe n W xD (by rw [hsc])
       rw [hsc] at uu hF
       rw [if_pos rfl] at hF
       refine aK.go 1000 ?_
       simp only [go_sem]
       refine ⟨⟨(n,z2),uu,hF⟩,[(3,4),(4,3)],jb rfl ?_,by simp only;omega⟩
       unfold kK
       simp only [go_sem,fy,dB,sP,dK,cz,cI (fy _),cI (dB _),cI (dK _),cI (cz _)]
      ·simp only at h
       subst h
       have hsc:=sB (by decide)
       have uu:=oe n W xD (by rw [hsc])
       rw [hsc] at uu hF
       rw [if_pos rfl] at hF
       refine aK.go 1000 ?_
       simp only [go_sem]
       refine ⟨⟨(n,z2),uu,hF⟩,[(3,7),(7,3)],jb rfl ?_,by simp only;omega⟩
       unfold kK
       simp only [go_sem,fy,dB,sP,dK,cz,cI (fy _),cI (dB _),cI (dK _),cI (cz _)]
     ·have fT:=Ylv g es W Gu hl k1
      have sX:=Ynk es W
      have nT:(jz es W).1=0→dE ((cS g es).drop 4) W=dE (cS g es) W:=fun h=>by rw [← aQ];exact (Iq (Fs:=cS g es) (k:=3) (show 3<4 by decide) h).symm
      have sB:¬ (jz es W).1=0→dE (cS g es) W=jz es W:=fun h=>by rw [← aQ];exact Ir (Fs:=cS g es) (k:=3) (show 3<4 by decide) h
      generalize jz es W=z at *
      obtain ⟨z1,z2⟩:=z
      unfold mM at sX
      simp only [false_and,true_and,false_or,or_false] at sX nT sB
      unfold rL
      simp only [go_sem,bC,bm,V0,V1,Jm,VY,VZ]
      refine I7 (o:=(some (.var [.aU, .aU, .int .i64 0, .int .i64 0]))) (g:=g) (es:=es) (W:=W) (z:=(z1,z2)) fT ?_ (fun h=>?_) (fun h=>?_)
      ·rcases sX with ⟨rfl,rfl⟩ | rfl
       ·unfold rL
        refine aK.go 1000 ?_
        simp only [go_sem]
        refine ⟨⟨4,by omega,nT rfl⟩,?_,by simp only;omega⟩
        unfold kK
        simp only [go_sem,fy,dB,sP,dK,cz,cI (fy _),cI (dB _),cI (dK _),cI (cz _)]
        all_goals rfl
       ·have hsc:=sB (by decide)
        have pb:=gB (n+1) W xD (by rw [hsc];simp)
        rw [hsc] at pb hF
        rw [if_neg (by simp)] at hF
        simp only at pb hF
        unfold rL
        refine aK.go 1000 ?_
        simp only [go_sem]
        refine aK.go 1000 ?_
        simp only [go_sem]
        refine aK.go 1000 ?_
        unfold o7 at hF
        by_cases he:z2.e=0
        ·rw [if_neg (by simp [he])] at hF
         have gB:=pb he
         have CZ:=IK z2.d gB.1 gB.2
         unfold kK
         simp only [go_sem,he]
         refine aq.bV [] CZ (cJ _ _ _) ⟨cz _,trivial⟩ ?_
         rw [jj];simp only [ite_self]
         refine aK.go 1000 ?_
         by_cases hn:(mN z2.d).2=0
         ·rw [if_neg (by simp [hn])] at hF
          simp only [go_sem,hn]
          refine aK.draw [.no, .no, .no, .no, .no, .no, .no, .no, .no, .no, .no, .no, .no, .no,⟨none,[0],[]⟩] 4 4 mixed rfl rfl (by decide) ?_
          simp only [go_sem,dC,Ii,xS]
          refine aK.go 1000 ?_
          simp only [go_sem,xS]
          subst hF
          refine ⟨⟨wm _ _ _,?_,cJ _ _ _⟩,rfl⟩
          rw [sn rfl rfl];trivial
         ·rw [if_pos hn] at hF
          subst hF
          simp only [go_sem,hn,Si.aO]
          exact ⟨rfl,rfl⟩
        ·rw [if_pos he] at hF
         subst hF
         unfold kK
         simp only [go_sem,he]
         refine aK.go 1000 ?_
         simp only [go_sem,he]
         refine aK.draw [.no,⟨none,[],[0]⟩,⟨none,[],[0]⟩,⟨none,[],[0]⟩,⟨none,[],[0]⟩,⟨none,[0],[]⟩] 4 4 mixed rfl rfl (by decide) ?_
         simp only [go_sem,dC]
         refine aK.go 1000 ?_
         simp only [go_sem,Si.aO]
         exact ⟨rfl,rfl⟩
      ·simp only at h
       subst h
       simp at sX
      ·simp only at h
       subst h
       simp at sX
     ·have hsc:dE (cS g es) W=(0,W):=aQ.symm
      have pb:=gB (n+1) W xD (by rw [hsc];simp)
      rw [hsc] at pb hF
      rw [if_neg (by simp)] at hF
      simp only at pb hF
      unfold o7 at hF
      by_cases he:W.e=0
      ·rw [if_neg (by simp [he])] at hF
       have gB:=pb he
       have CZ:=IK W.d gB.1 gB.2
       unfold rL kK
       simp only [go_sem,he,Jm]
       refine aK.go 1000 ?_
       simp only [go_sem,he]
       refine aK.go 1000 ?_
       simp only [go_sem,he]
       refine aq.bV [] CZ (cJ _ _ _) ⟨cz _,trivial⟩ ?_
       rw [jj];simp only [ite_self]
       refine aK.go 1000 ?_
       by_cases hn:(mN W.d).2=0
       ·rw [if_neg (by simp [hn])] at hF
        simp only [go_sem,hn]
        refine aK.draw [.no, .no, .no, .no, .no, .no, .no, .no, .no, .no, .no, .no, .no, .no,⟨none,[0],[]⟩] 4 4 mixed rfl rfl (by decide) ?_
        simp only [go_sem,dC,Ii,xS]
        refine aK.go 1000 ?_
        simp only [go_sem,xS]
        subst hF
        refine ⟨⟨wm _ _ _,?_,cJ _ _ _⟩,rfl⟩
        rw [sn rfl rfl];trivial
       ·rw [if_pos hn] at hF
        subst hF
        simp only [go_sem,hn,Si.aO]
        exact ⟨rfl,rfl⟩
      ·rw [if_pos he] at hF
       subst hF
       unfold rL kK
       simp only [go_sem,he,Jm]
       refine aK.go 1000 ?_
       simp only [go_sem,he]
       refine aK.go 1000 ?_
       simp only [go_sem,he]
       refine aK.draw [.no,⟨none,[],[0]⟩,⟨none,[],[0]⟩,⟨none,[],[0]⟩,⟨none,[],[0]⟩,⟨none,[0],[]⟩] 4 4 mixed rfl rfl (by decide) ?_
       simp only [go_sem,dC]
       refine aK.go 1000 ?_
       simp only [go_sem,Si.aO]
       exact ⟨rfl,rfl⟩
end Go.Proofs
namespace Go.Proofs
open Go Go.c8
theorem Rm {es:List (List Li)} {u:Un} (h:u∈cQ es):dP u=false:=by
 unfold cQ at h
 have:=(List.mem_filter.1 h).2
 simpa using this
theorem Yfw {g:List Sy} {us:List Un} {c:List Li} (h0:(eF g us c).2.2.2=0):(eF g us c).1.length=c.length:=by
 unfold eF ld at h0 ⊢
 rcases D3 (TT g c) us (cr c 0) with ⟨f1,_⟩ | ⟨k,hk,x,f1,f2,_⟩
 ·rw [f1]
 ·rw [f1] at h0 ⊢
  simp only at h0 ⊢
  split at h0
  ·split
   ·unfold kl
    split<;>simp
   ·rename_i h1 h2;exact absurd h1 h2
  ·rename_i h1
   split
   ·rename_i h2;exact absurd h2 h1
   ·exact absurd h0 (by assumption)
theorem TR {g:List Sy} {us:List Un}:∀ (n:Nat) (c:List Li) (u:List Int),(fg (eF g us) n c u).2.2=0→(fg (eF g us) n c u).1.length=c.length
 | 0,_,_,h=>by rw [fg] at h;exact absurd h (by decide)
 | n+1,c,u,h=>by
  rw [fg] at h ⊢
  split
  ·rename_i h1;rw [if_pos h1] at h;exact absurd h h1
  ·rename_i h1
   rw [if_neg h1] at h
   split
   ·rfl
   ·rename_i h2
    rw [if_neg h2] at h
    split
    ·rename_i h3;rw [if_pos h3] at h;exact absurd h (by simp)
    ·rename_i h3
     rw [if_neg h3] at h
     rw [TR n _ _ h,Yfw (by simpa using h1)]
theorem Zh {g:List Sy} {es:List (List Li)} {c:List Li} (h:(cB g es c).2.2=0):(cB g es c).1.length=c.length:=by
 unfold cB gk at h ⊢
 split
 ·rename_i h1;rw [if_pos h1] at h;exact absurd h h1
 ·rename_i h1
  rw [if_neg h1] at h
  exact TR _ _ _ h
theorem Sk (g:List Sy) (es:List (List Li)) (c:List Li):(cB g es c).2.1.length≤200:=by
 unfold cB gk
 split
 ·exact av _
 ·exact Vj _ _ _ _ (av _)
theorem RG {g:List Sy} {c:List Li} {es:List (List Li)} (hc:bf g c=0):cF g (c :: es)=cF g es:=by
 rw [cF,if_neg (fun k=>k hc)]
theorem I8 {g:List Sy} {es:List (List Li)} {c d:List Li} (h:qC es c) (hw:cF g (c :: es)=0) (hd:jm g d):qC es d∧cF g (d :: es)=0:=by
 have h1:=D4 hw c (by simp)
 refine ⟨⟨h.1,fun x hx=>?_⟩,by rw [RG hd.1,← RG h1];exact hw⟩
 rcases aR.1 hx with rfl | hx
 ·refine ⟨fun i hi=>?_,hd.2⟩
  obtain ⟨a1,a2⟩:=tX hd (aE hi)
  have b1:=(p8 a1).2
  have b2:=(p8 a2).2
  exact ⟨by omega,by omega⟩
 ·exact h.2 x (by simp [hx])
theorem FX {g:List Sy} {d:List Li} (hd:jm g d):lT d:=by
 obtain ⟨_,h2,_⟩:=xR hd.1
 refine ⟨fun l hl=>?_,by omega⟩
 obtain ⟨a1,a2⟩:=tX hd hl
 have b1:=p8 a1
 have b2:=p8 a2
 exact ⟨⟨b1.1,by have:=b1.2;omega⟩,b2.1,by have:=b2.2;omega⟩
theorem Vs {m:Nat}:∀ {c:List Li},(∀ l∈c,l.l.size≤m∧l.r.size≤m)→Tm.bF (cP c)≤c.length*(2*m)
 | [],_=>by simp [cP,Tm.bF]
 | l :: c,h=>by
  obtain ⟨a1,a2⟩:=h l (by simp)
  have ih:=Vs (c:=c) fun x hx=>h x (by simp [hx])
  rw [show cP (l :: c)=l.l :: l.r :: cP c from rfl,Tm.bF,Tm.bF,ax,Nat.succ_mul]
  omega
theorem Yjj {g:List Sy} {d:List Li} (hd:jm g d):Tm.bF (cP d)<99999999:=by
 obtain ⟨_,h2,_⟩:=xR hd.1
 have h:=Vs (m:=400) (c:=d) fun l hl=>by
  obtain ⟨a1,a2⟩:=tX hd hl
  exact ⟨(p8 a1).2,(p8 a2).2⟩
 have:d.length*(2*400)≤32*(2*400):=aX _ h2
 omega
theorem CD {g:List Sy} {es:List (List Li)} {c:List Li} (h:qC es c) (hw:cF g (c :: es)=0):∀ x∈es,jm g x:=fun x hx=>⟨D4 hw x (by simp [hx]),(h.2 x (by simp [hx])).2⟩
noncomputable def Hs (g:List Sy) (es:List (List Li)) (W:Wk):Nat:=2*W.d.length + @ite _ (calm g (cQ es) W.d) (Classical.propDecidable _) 0 1
structure IW (g:List Sy) (es:List (List Li)) (n:Nat) (W:Wk):Prop where
 rt:jm g W.d
 e:W.e=0
 gone:W.gone=0
 sj:W.sj = -1
 tidy:mS W.d
 nodup:W.u.Nodup
 rows:∀ k∈W.u,0≤k∧k<es.length
 len:W.u.length+201*n≤201*70
 mu:Hs g es W<n
theorem Ypq (g:List Sy) (es:List (List Li)) (W:Wk):dE (cS g es) W=if (gZ W).1≠0 then gZ W else if (jP g es W).1≠0 then jP g es W else if (l7 es W).1≠0 then l7 es W else if (jz es W).1≠0 then jz es W else (0,W):=by
 simp only [cS,dE,ite_not,ne_eq]
theorem H5 (g:List Sy) (es:List (List Li)) (W:Wk) :
  (jC W.d=true∧dE (cS g es) W=(2,{ W with gone:=1 })) ∨
  (jC W.d=false∧(cB g es W.d).2.2≠0∧dE (cS g es) W=(2,{ W with e:=(cB g es W.d).2.2 })) ∨
  (jC W.d=false∧(cB g es W.d).2.2=0∧(cB g es W.d).2.1≠[]∧dE (cS g es) W=(1,iF (cB g es W.d).2.1 { W with d:=iq (cB g es W.d).1 })) ∨
  (jC W.d=false∧(cB g es W.d).2.2=0∧(cB g es W.d).2.1=[]∧∃ x,kX 0 es W.d=some x∧dE (cS g es) W=(1,kq (x.1:Int) { W with d:=W.d.eraseIdx x.2 })) ∨
  (jC W.d=false∧(cB g es W.d).2.2=0∧(cB g es W.d).2.1=[]∧kX 0 es W.d=none∧∃ k,jy 0 es W.d=some k∧dE (cS g es) W=(2,{ W with gone:=2,sj:=(k:Int) })) ∨
  (jC W.d=false∧(cB g es W.d).2.2=0∧(cB g es W.d).2.1=[]∧kX 0 es W.d=none∧jy 0 es W.d=none∧dE (cS g es) W=(0,W)):=by
 rw [Ypq]
 cases h1:jC W.d
 ·have e1:gZ W=(0,W):=by unfold gZ;rw [h1];rfl
  rw [e1,if_neg (fun k=>k rfl)]
  by_cases h2:(cB g es W.d).2.2=0
  ·by_cases h3:(cB g es W.d).2.1=[]
   ·have e2:jP g es W=(0,W):=by unfold jP;rw [if_neg (fun k=>k h2),if_pos h3]
    rw [e2,if_neg (fun k=>k rfl)]
    cases h4:kX 0 es W.d with
    | some x =>
     have e3:l7 es W=(1,kq (x.1:Int) { W with d:=W.d.eraseIdx x.2 }):=by unfold l7;rw [h4]
     rw [e3,if_pos (by simp)]
     exact .inr (.inr (.inr (.inl ⟨rfl,h2,h3,x,rfl,rfl⟩)))
    | none =>
     have e3:l7 es W=(0,W):=by unfold l7;rw [h4]
     rw [e3,if_neg (fun k=>k rfl)]
     cases h5:jy 0 es W.d with
     | some k =>
      have e4:jz es W=(2,{ W with gone:=2,sj:=(k:Int) }):=by unfold jz;rw [h5]
      rw [e4,if_pos (by simp)]
      exact .inr (.inr (.inr (.inr (.inl ⟨rfl,h2,h3,rfl,k,rfl,rfl⟩))))
     | none =>
      have e4:jz es W=(0,W):=by unfold jz;rw [h5]
      rw [e4,if_neg (fun k=>k rfl)]
      exact .inr (.inr (.inr (.inr (.inr ⟨rfl,h2,h3,rfl,rfl,rfl⟩))))
   ·have e2:jP g es W=(1,iF (cB g es W.d).2.1 { W with d:=iq (cB g es W.d).1 }):=by unfold jP;rw [if_neg (fun k=>k h2),if_neg h3]
    rw [e2,if_pos (by simp)]
    exact .inr (.inr (.inl ⟨rfl,h2,h3,rfl⟩))
  ·have e2:jP g es W=(2,{ W with e:=(cB g es W.d).2.2 }):=by unfold jP;rw [if_pos h2]
   rw [e2,if_pos (by simp)]
   exact .inr (.inl ⟨rfl,h2,rfl⟩)
 ·have e1:gZ W=(2,{ W with gone:=1 }):=by unfold gZ;rw [h1];rfl
  rw [e1,if_pos (by simp)]
  exact .inl ⟨rfl,rfl⟩
theorem TC:∀ (es:List (List Li)) (i:Nat), ∀ u∈lx es i,(i:Int)≤u.off∧u.off<i+es.length
 | [],_,u,h=>by rw [lx] at h;cases h
 | c :: es,i,u,h=>by
  rw [lx] at h
  rcases aW.1 h with h | h
  ·unfold wa at h
   split at h
   ·split at h
    ·cases h
    ·simp only [aR,dR,or_false] at h
     rcases h with rfl | rfl<;>simp only [ax]<;>omega
   ·cases h
  ·have:=TC es (i+1) u h
   simp only [ax];omega
theorem Zw1 {es:List (List Li)} {u:Un} (h:u∈cQ es) : 0≤u.off∧u.off<es.length:=by
 unfold cQ at h
 have:=TC es 0 u (List.mem_filter.1 h).1
 omega
theorem Ygo {g:List Sy} {us:List Un} {c:List Li} (h0:(eF g us c).2.2.2=0) (h1:¬ (eF g us c).2.2.1=false):∃ u∈us,(eF g us c).2.1=u.off:=by
 unfold eF ld at h0 h1 ⊢
 rcases D3 (TT g c) us (cr c 0) with ⟨f1,_⟩ | ⟨k,hk,x,f1,f2,_⟩
 ·rw [f1] at h1;exact absurd rfl h1
 ·rw [f1] at h0 h1 ⊢
  simp only at h0 h1 ⊢
  split at h0
  ·rename_i h2
   rw [if_pos h2]
   exact ⟨x.1,(HT f2).1,rfl⟩
  ·rename_i h2
   exact absurd h0 (by simpa using h2)
theorem T5 {g:List Sy} {us:List Un} {P:Int→Prop} (hP:∀ u∈us,P u.off):∀ (n:Nat) (c:List Li) (l:List Int),(∀ k∈l,P k)→∀ k∈(fg (eF g us) n c l).2.1,P k
 | 0,c,l,_=>by rw [fg];intro k hk;cases hk
 | n+1,c,l,h=>by
  rw [fg]
  split
  ·intro k hk;cases hk
  ·rename_i h1
   split
   ·exact h
   ·rename_i h2
    split
    ·intro k hk;cases hk
    ·refine T5 hP n _ _ fun k hk=>?_
     rcases aW.1 hk with hk | hk
     ·exact h k hk
     ·obtain ⟨u,hu,e⟩:=Ygo (by simpa using h1) h2
      rw [aM.1 hk,e]
      exact hP u hu
theorem Yfs {g:List Sy} {es:List (List Li)} {c:List Li}:∀ k∈(cB g es c).2.1,0≤k∧k<es.length:=by
 unfold cB gk
 split
 ·intro k hk;cases hk
 ·exact T5 (fun u hu=>Zw1 hu) _ _ _ (fun k hk=>by cases hk)
theorem VC {k j:Int} {W:Wk}:j∈(kq k W).u↔j∈W.u∨j=k:=by
 unfold kq
 split
 ·rename_i h
  exact ⟨.inl,fun h2=>h2.elim id fun e=>e ▸ h⟩
 ·simp
theorem R9 {k:Int} {W:Wk} (h:W.u.Nodup):(kq k W).u.Nodup:=by
 unfold kq
 split
 ·exact h
 ·rename_i hn
  simp only
  rw [gO]
  refine ⟨h,by simp,fun a ha b hb e=>?_⟩
  rw [aM.1 hb] at e
  exact hn (e ▸ ha)
theorem Qa (k:Int) (W:Wk):(kq k W).d=W.d∧(kq k W).e=W.e∧(kq k W).gone=W.gone∧(kq k W).sj=W.sj:=by unfold kq;split<;>exact ⟨rfl,rfl,rfl,rfl⟩
theorem S9 {j:Int}:∀ {l:List Int} {W:Wk},j∈(iF l W).u↔j∈W.u∨j∈l
 | [],W=>by simp [iF]
 | k :: l,W=>by rw [iF,S9,VC,aR,or_assoc]
theorem Ro:∀ {l:List Int} {W:Wk},W.u.Nodup→(iF l W).u.Nodup
 | [],W,h=>h
 | k :: l,W,h=>by rw [iF];exact Ro (R9 h)
theorem S_:∀ (l:List Int) (W:Wk),(iF l W).u.length≤W.u.length+l.length
 | [],W=>by simp [iF]
 | k :: l,W=>by
  rw [iF]
  have:=S_ l (kq k W)
  have:=Ll k W
  simp only [ax];omega
theorem PI:∀ (l:List Int) (W:Wk),(iF l W).d=W.d∧(iF l W).e=W.e∧(iF l W).gone=W.gone∧(iF l W).sj=W.sj
 | [],W=>⟨rfl,rfl,rfl,rfl⟩
 | k :: l,W=>by
  rw [iF]
  obtain ⟨a1,a2,a3,a4⟩:=PI l (kq k W)
  obtain ⟨b1,b2,b3,b4⟩:=Qa k W
  exact ⟨a1.trans b1,a2.trans b2,a3.trans b3,a4.trans b4⟩
theorem TX:∀ {es:List (List Li)} {k:Nat} {d:List Li} {x:Nat×Nat},kX k es d=some x→∃ (i:Nat) (h:i<es.length),x.1=k+i∧(mr es[i] d).2.2=0∧(mr es[i] d).2.1=true∧(mr es[i] d).1=(x.2:Int)∧x.2<d.length
 | [],_,_,_,h=>by rw [kX] at h;cases h
 | c :: es,k,d,x,h=>by
  rw [kX] at h
  split at h
  ·rename_i hc
   obtain ⟨i,e,hi⟩:=PS hc
   cases h
   refine ⟨0,by simp,rfl,hc.1,hc.2,?_,?_⟩
   ·simp only [eN];rw [e];rfl
   ·simp only;rw [e];exact hi
  ·obtain ⟨i,hi,h1,h2⟩:=TX h
   exact ⟨i+1,by simp;omega,by omega,by simpa using h2⟩
theorem I9 {g:List Sy} {es:List (List Li)} {W:Wk} (h:calm g (cQ es) W.d):Hs g es W=2*W.d.length:=by unfold Hs;rw [if_pos h];rfl
theorem Qb {g:List Sy} {es:List (List Li)} {W:Wk} (h:¬ calm g (cQ es) W.d):Hs g es W=2*W.d.length+1:=by unfold Hs;rw [if_neg h]
theorem PA {g:List Sy} {es:List (List Li)} {c:List Li} (h:qC es c) (hw:cF g (c :: es)=0) {n:Nat} {W:Wk} (hI:IW g es (n+1) W) (h1:(dE (cS g es) W).1=1):IW g es n (dE (cS g es) W).2:=by
 obtain ⟨fE,EW⟩:=I8 h hw hI.rt
 have hu:∀ u∈cQ es,dP u=false∧gM g u.l∧gM g u.r:=fun u hu=>⟨Rm hu,Zip (g:=g) (fun x hx=>(CD h hw x hx).1) (fun x hx=>(CD h hw x hx).2) hu⟩
 have G6:=hI.mu
 have hlen:=hI.len
 rcases H5 g es W with ⟨_,e⟩ | ⟨_,_,e⟩ | ⟨_,h2,h3,e⟩ | ⟨_,h2,h3,x,h4,e⟩ | ⟨_,_,_,_,k,_,e⟩ | ⟨_,_,_,_,_,e⟩
 ·rw [e] at h1;exact absurd h1 (by simp)
 ·rw [e] at h1;exact absurd h1 (by simp)
 ·rw [e]
  have EF:¬ calm g (cQ es) W.d:=fun k=>h3 ((Fq EW).1 k).2
  have hn:=Z1 fE h2
  have sA:=(LF fE h2).2.1
  have uC:=PW sA
  have yl:=VI (Ul _) sA uC hu hn
  have hl:=Zh h2
  have WS:=Uy (cB g es W.d).1
  have yI:=Sk g es W.d
  have xe:=S_ (cB g es W.d).2.1 { W with d:=iq (cB g es W.d).1 }
  obtain ⟨d1,d2,d3,d4⟩:=PI (cB g es W.d).2.1 { W with d:=iq (cB g es W.d).1 }
  have pg:=Ro (l:=(cB g es W.d).2.1) (W:={ W with d:=iq (cB g es W.d).1 }) hI.nodup
  have jM:=fun j=>S9 (j:=j) (l:=(cB g es W.d).2.1) (W:={ W with d:=iq (cB g es W.d).1 })
  rw [Qb EF] at G6
  simp only at d1 d2 d3 d4 xe ⊢
  generalize iF (cB g es W.d).2.1 { W with d:=iq (cB g es W.d).1 }=X at *
  refine ⟨by rw [d1];exact uC,by rw [d2];exact hI.e,by rw [d3];exact hI.gone,by rw [d4];exact hI.sj,by rw [d1];exact Uf _,pg,fun k hk=>?_,by omega,?_⟩
  ·rcases (jM k).1 hk with hk | hk
   ·exact hI.rows k hk
   ·exact Yfs k hk
  ·rw [I9 (by rw [d1];exact yl),d1];omega
 ·rw [e]
  have EF:calm g (cQ es) W.d:=(Fq EW).2 ⟨h2,h3⟩
  obtain ⟨i,hi,q1,q2,q3,q4,q5⟩:=TX h4
  have uC:=Yku x.2 hI.rt
  have yl:=VI (TL W.d x.2) hI.rt uC hu EF
  have hl:(W.d.eraseIdx x.2).length=W.d.length - 1:=m0 q5
  obtain ⟨d1,d2,d3,d4⟩:=Qa (x.1:Int) { W with d:=W.d.eraseIdx x.2 }
  have xe:=Ll (x.1:Int) { W with d:=W.d.eraseIdx x.2 }
  have pg:=R9 (k:=(x.1:Int)) (W:={ W with d:=W.d.eraseIdx x.2 }) hI.nodup
  have jM:=fun j=>VC (k:=(x.1:Int)) (j:=j) (W:={ W with d:=W.d.eraseIdx x.2 })
  rw [I9 EF] at G6
  simp only at d1 d2 d3 d4 xe ⊢
  generalize kq (x.1:Int) { W with d:=W.d.eraseIdx x.2 }=X at *
  refine ⟨by rw [d1];exact uC,by rw [d2];exact hI.e,by rw [d3];exact hI.gone,by rw [d4];exact hI.sj,by rw [d1];exact R6 _ hI.tidy,pg,fun k hk=>?_,by omega,?_⟩
  ·rcases (jM k).1 hk with hk | rfl
   ·exact hI.rows k hk
   ·omega
  ·rw [I9 (by rw [d1];exact yl),d1];omega
 ·rw [e] at h1;exact absurd h1 (by simp)
 ·rw [e] at h1;exact absurd h1 (by simp)
theorem E7 {g:List Sy} {es:List (List Li)} {c:List Li} (h:qC es c) (hw:cF g (c :: es)=0):IW g es 70 (wg c):=by
 have sA:jm g c:=⟨D4 hw c (by simp),(h.2 c (by simp)).2⟩
 have uC:=PW sA
 refine ⟨uC,rfl,rfl,rfl,Uf c,kU,fun k hk=>(by cases hk),by simp [wg],?_⟩
 have hl:=(xR uC.1).2.1
 have hd:(wg c).d=iq c:=rfl
 by_cases hc:calm g (cQ es) (wg c).d
 ·rw [I9 hc,hd];omega
 ·rw [Qb hc,hd];omega
theorem Yuw {g:List Sy} {es:List (List Li)} {W:Wk} (h:(dE (cS g es) W).1≠1):(dE (cS g es) W).2.d=W.d:=by
 rcases H5 g es W with ⟨_,e⟩ | ⟨_,_,e⟩ | ⟨_,h2,h3,e⟩ | ⟨_,h2,h3,x,h4,e⟩ | ⟨_,_,_,_,k,_,e⟩ | ⟨_,_,_,_,_,e⟩
 ·rw [e]
 ·rw [e]
 ·rw [e] at h;exact absurd rfl h
 ·rw [e] at h;exact absurd rfl h
 ·rw [e]
 ·rw [e]
theorem Ja (g:List Sy) (es:List (List Li)) (c:List Li) (h:qC es c) :
  aJ Tryz.prog 9 [.ps 4 (syms g), .ps 1 (da es), .ps 5 (lits c)] (.dA [(ix g es c).1.aO, .int .i64 (ix g es c).2]):=by
 have hl:=h.1
 have sA:=fun hw:cF g (c :: es)=0=>(⟨D4 hw c (by simp),(h.2 c (by simp)).2⟩:jm g c)
 refine Yvx g es c (fun n W=>cF g (c :: es)=0∧IW g es n W) (fun x hx=>(h.2 x hx).1) (fun hw=>FX (sA hw)) (by omega) (fun hw x hx=>FX (CD h hw x hx)) (fun hw=>⟨hw,E7 h hw⟩) ?_ ?_ ?_
 ·rintro n W ⟨hw,hI⟩
  obtain ⟨fE,EW⟩:=I8 h hw hI.rt
  have G6:=hI.mu
  have hlen:=hI.len
  have yI:=Sk g es W.d
  exact ⟨⟨n - 1,by omega⟩,FX hI.rt,fE,fun h2=>FX (LF fE h2).2.1,by omega⟩
 ·rintro n W ⟨hw,hI⟩ h1
  exact ⟨hw,PA h hw hI h1⟩
 ·rintro n W ⟨hw,hI⟩ h1 _
  rw [Yuw h1]
  exact ⟨FX hI.rt,Yjj hI.rt⟩
theorem Vz {g:List Sy} {es:List (List Li)} {c:List Li} (h:qC es c) (hw:cF g (c :: es)=0):∀ (n:Nat) (W:Wk),IW g es n W→∃ (m:Nat) (X:Wk),IW g es m X∧(dE (cS g es) X).1≠1∧vw g es n W=(dE (cS g es) X).2
 | 0,W,hI=>absurd hI.mu (by omega)
 | n+1,W,hI=>by
  rw [vw]
  split
  ·rename_i h1
   exact Vz h hw n _ (PA h hw hI h1)
  ·rename_i h1
   exact ⟨n+1,W,hI,h1,rfl⟩
theorem Ql {g:List Sy} {d:List Li} (hd:jm g d):(d.any qp)=false:=by
 rw [← df,cT]
 rintro ⟨l,hl,ho⟩
 obtain ⟨a1,a2⟩:=tX hd hl
 unfold qp at ho
 simp [(mW a1.1).1,(mW a2.1).1] at ho
theorem SZ {g:List Sy} {c d:List Li} (hc:jm g c) (hd:jm g d):jH c d=0:=by
 have h1:=(xR hc.1).2.1
 have h2:=(xR hd.1).2.1
 unfold jH
 rw [if_neg (by omega),Ql hc,Ql hd];rfl
theorem Yho {g:List Sy} {d:List Li} (hd:jm g d):iM (cP d)=false:=by
 rw [← df]
 unfold iM
 rw [cT]
 rintro ⟨t,ht,ho⟩
 unfold cP at ht
 rw [lQ] at ht
 obtain ⟨l,hl,ht⟩:=ht
 obtain ⟨a1,a2⟩:=tX hd hl
 simp only [aR,dR,or_false] at ht
 rcases ht with rfl | rfl
 ·simp [(mW a1.1).1] at ho
 ·simp [(mW a2.1).1] at ho
theorem U7 {g:List Sy} {d:List Li} (hd:jm g d):mN d=(iW d,0):=by unfold mN;rw [Yho hd];rfl
theorem UH {g:List Sy} {c d:List Li} (hc:jm g c) (hd:jm g d):oq c d=(rE c d,0):=by unfold oq;rw [if_neg (by simp [SZ hc hd])]
theorem RS {g:List Sy} {es:List (List Li)} {c:List Li} (h:qC es c) :
  (cF g (c :: es)≠0∧ix g es c=(⟨[],[],0,0⟩,cF g (c :: es))) ∨
  (cF g (c :: es)=0∧∃ (n:Nat) (X:Wk),IW g es n X ∧
   ((jC X.d=true∧ix g es c=(⟨iW X.d,X.u,1, -1⟩,0)) ∨
    (jC X.d=false∧(cB g es X.d).2.2≠0∧ix g es c=(⟨[],[],0,0⟩,(cB g es X.d).2.2)) ∨
    (jC X.d=false∧(cB g es X.d).2.2=0∧(cB g es X.d).2.1=[]∧kX 0 es X.d=none∧∃ k,jy 0 es X.d=some k∧ix g es c=(⟨iW X.d,X.u,2,(k:Int)⟩,0)) ∨
    (jC X.d=false∧(cB g es X.d).2.2=0∧(cB g es X.d).2.1=[]∧kX 0 es X.d=none∧jy 0 es X.d=none∧ix g es c=(⟨iW X.d,X.u,0, -1⟩,0)))):=by
 by_cases hw:cF g (c :: es)=0
 case neg=>exact .inl ⟨hw,by unfold ix;rw [if_pos hw]⟩
 refine .inr ⟨hw,?_⟩
 obtain ⟨n,X,hI,h1,e⟩:=Vz h hw 70 (wg c) (E7 h hw)
 have hF:ix g es c=o7 (dE (cS g es) X).2:=by unfold ix;rw [if_neg (by simp [hw]),e]
 have hN:=U7 hI.rt
 refine ⟨n,X,hI,?_⟩
 rw [hF]
 rcases H5 g es X with ⟨q1,e⟩ | ⟨q1,q2,e⟩ | ⟨_,h2,h3,e⟩ | ⟨_,h2,h3,x,h4,e⟩ | ⟨q1,q2,q3,q4,k,q5,e⟩ | ⟨q1,q2,q3,q4,q5,e⟩
 ·refine .inl ⟨q1,?_⟩
  rw [e];unfold o7
  simp only [hI.e,hN,hI.sj];rfl
 ·refine .inr (.inl ⟨q1,q2,?_⟩)
  rw [e];unfold o7
  simp only
  rw [if_pos q2]
 ·rw [e] at h1;exact absurd rfl h1
 ·rw [e] at h1;exact absurd rfl h1
 ·refine .inr (.inr (.inl ⟨q1,q2,q3,q4,k,q5,?_⟩))
  rw [e];unfold o7
  simp only [hI.e,hN];rfl
 ·refine .inr (.inr (.inr ⟨q1,q2,q3,q4,q5,?_⟩))
  rw [e];unfold o7
  simp only [hI.e,hN,hI.sj,hI.gone];rfl
mutual
theorem HC (s k:Int→Tm):∀ t:Tm,(t.ap s).ap k=t.ap fun v=>(s v).ap k
 | .mk h ts=>by
  rw [Tm.ap]
  by_cases hn:h<0
  ·rw [if_pos hn,Tm.ap,if_pos hn]
  ·rw [if_neg hn,Tm.ap,Tm.ap,if_neg hn,if_neg hn,O1 s k ts]
theorem O1 (s k:Int→Tm):∀ ts:List Tm,Tm.n7 k (Tm.n7 s ts)=Tm.n7 (fun v=>(s v).ap k) ts
 | []=>rfl
 | t :: ts=>by rw [Tm.n7,Tm.n7,Tm.n7,HC s k t,O1 s k ts]
end
mutual
theorem QM:∀ t:Tm,t.good=true→t.ap vr=t
 | .mk h ts,hg=>by
  by_cases hn:h<0
  ·have:=Bk hg hn
   simp only [Tm.args] at this
   rw [Tm.ap,if_pos hn,this,vr,show -1 - (-1 - h)=h by omega]
  ·have ha:=qw hg
   simp only [Tm.args] at ha
   rw [Tm.ap,if_neg hn,QB ts ha]
theorem QB:∀ ts:List Tm,(∀ t∈ts,t.good=true)→Tm.n7 vr ts=ts
 | [],_=>rfl
 | t :: ts,h=>by rw [Tm.n7,QM t (h t (by simp)),QB ts fun x hx=>h x (by simp [hx])]
end
mutual
theorem O2 {s:Int→Tm}:∀ t:Tm,t.good=true→(t.dj fun v=>(s v).good=true)→(t.ap s).good=true
 | .mk h ts,hg,hv=>by
  rw [Tm.dj] at hv
  by_cases hn:h<0
  ·rw [Tm.ap,if_pos hn];exact hv.1 hn
  ·have ha:=qw hg
   simp only [Tm.args] at ha
   rw [Tm.ap,if_neg hn]
   rw [Tm.good] at hg ⊢
   rw [aC] at hg ⊢
   refine ⟨?_,UZ ts ha hv.2⟩
   rw [Er,ak];exact hg.1
theorem UZ {s:Int→Tm}:∀ ts:List Tm,(∀ t∈ts,t.good=true)→Tm.fA (fun v=>(s v).good=true) ts→Tm.eH (Tm.n7 s ts)=true
 | [],_,_=>rfl
 | t :: ts,h,hv=>by
  rw [Tm.fA] at hv
  rw [Tm.n7,Tm.eH,O2 t (h t (by simp)) hv.1,UZ ts (fun x hx=>h x (by simp [hx])) hv.2];rfl
end
mutual
theorem Rq {s:Int→Tm}:∀ t:Tm,t.good=true→(t.ap s).good=true→t.dj fun v=>(s v).good=true
 | .mk h ts,hg,h0=>by
  have ha:=qw hg
  simp only [Tm.args] at ha
  rw [Tm.dj]
  rw [Tm.ap] at h0
  by_cases hn:h<0
  ·rw [if_pos hn] at h0
   have:=Bk hg hn
   simp only [Tm.args] at this
   rw [this]
   exact ⟨fun _=>h0,trivial⟩
  ·rw [if_neg hn,Tm.good,aC] at h0
   exact ⟨fun k=>absurd k hn,Re ts ha h0.2⟩
theorem Re {s:Int→Tm}:∀ ts:List Tm,(∀ t∈ts,t.good=true)→Tm.eH (Tm.n7 s ts)=true→Tm.fA (fun v=>(s v).good=true) ts
 | [],_,_=>trivial
 | t :: ts,h,h0=>by
  rw [Tm.n7,Tm.eH,aC] at h0
  rw [Tm.fA]
  exact ⟨Rq t (h t (by simp)) h0.1,Re ts (fun x hx=>h x (by simp [hx])) h0.2⟩
end
open Classical in
noncomputable def vU (r:Int→Int) (p:Int→Prop) (w:Int):Tm:=if h:∃ v,p v∧r v=w then vr (Classical.choose h) else vr w
section
variable {r:Int→Int} {p:Int→Prop}
theorem Yzw (hr:fp r p) {t:Tm} (h:qE p t):(t.rn r).ap (vU r p)=t:=by
 unfold Tm.rn
 rw [HC]
 refine (FM t (LP (fun v hv=>?_) t h.2)).trans (QM t h.1)
 show (vr (r v)).ap (vU r p)=vr v
 have h0:=(hr.pos v hv).1
 have e:(vr (r v)).ap (vU r p)=vU r p (r v):=by
  rw [EB (by simp only [vr,Tm.head];omega)]
  simp only [vr,Tm.head]
  rw [show -1 - (-1 - r v)=r v by omega]
 rw [e]
 unfold vU
 have hx:∃ v',p v'∧r v'=r v:=⟨v,hv,rfl⟩
 rw [dif_pos hx]
 have hs:=lD hx
 rw [hr.inj _ _ hs.1 hv hs.2]
theorem Ysb (hr:fp r p) {g:List Sy} {c:List Li} {u:Un} {t:Tm} (hc:jm g c) (hp:sQ p c) (hl:gM g u.l) (EM:gM g u.r) (ht:gM g t) (hv:t.dj p) (hb:dP u=false) :
  (eV g (iP r c) u (t.rn r)).2=(eV g c u t).2∧((eV g c u t).2=true→(eV g (iP r c) u (t.rn r)).1=(eV g c u t).1.rn r):=by
 have kZ:=(p7 (mW hl.1).1).2.2
 have zA:=(p7 (mW EM.1).1).2.2
 have wv:=(p7 (mW ht.1).1).2.2
 have hw:within u.r u.l=true:=by
  unfold dP at hb
  simp only [ct,decide_eq_false_iff_not,fh] at hb
  exact hb.2
 have Wt:=QE hr hc hp
 have rQ:=Yvr hr ht hv
 have hk:=Cv hc hp
 have hy:∀ s:Int→Tm,u.l.ap s=t→qE p (u.r.ap s):=fun s hs=>by
  have g1:u.l.dj fun v=>(s v).good=true:=Rq u.l kZ (by rw [hs];exact wv)
  have v1:u.l.dj fun v=>(s v).dj p:=(FR s u.l kZ).1 (by rw [hs];exact hv)
  have key:∀ q:Int→Prop,u.l.dj q→u.r.dj q:=fun q hq=>(zm _).1 fun v JJ=>(zm _).2 hq v (by
   unfold within at hw
   exact of_decide_eq_true (bj.1 hw v JJ))
  exact ⟨O2 u.r zA (key _ g1),(FR s u.r zA).2 (key _ v1)⟩
 have Gs:∀ s:Int→Tm,u.l.ap s=t→(t_ g (iP r c) (t.rn r) ((u.r.ap s).rn r)↔t_ g c t (u.r.ap s)):=fun s hs=>by
  have h1:=hy s hs
  have h2:∀ l∈[oN t (u.r.ap s)],kj p l:=fun l hl=>by rw [aM.1 hl];exact ⟨⟨wv,hv⟩,h1⟩
  unfold t_
  have e1 : [oN (t.rn r) ((u.r.ap s).rn r)]=iP r [oN t (u.r.ap s)]:=rfl
  rw [e1,KX hr g h2,Yt4 hr g h2 hk,J7 hr g _ _ wv h1.1 hv h1.2]
 have G_:∀ (s:Int→Tm) (x:Tm),(x.ap s).rn r=x.ap fun v=>(s v).rn r:=fun s x=>HC _ _ _
 have WT:(eV g c u t).2=true→eV g (iP r c) u (t.rn r)=((eV g c u t).1.rn r,true):=fun h=>by
  obtain ⟨s,h1,h2,h3⟩:=(Fo hc hl EM ht hb).1 h
  have e:=(H4 hc hl EM ht hb s).1 ⟨h1,h2,h3⟩
  have h4:=(H4 Wt hl EM rQ hb (fun v=>(s v).rn r)).1 ⟨by rw [← G_,h1],by rw [FG hr g t hv];exact h2,by rw [← G_];exact (Gs s h1).2 h3⟩
  rw [h4.2,e.2,G_]
 refine ⟨?_,fun h=>by rw [WT h]⟩
 cases h:(eV g c u t).2 with
 | true=>rw [WT h]
 | false =>
  cases h':(eV g (iP r c) u (t.rn r)).2 with
  | false=>rfl
  | true =>
   obtain ⟨s,h1,h2,h3⟩:=(Fo Wt hl EM rQ hb).1 h'
   have e1:u.l.ap (fun v=>(s v).ap (vU r p))=t:=by rw [← HC,h1,Yzw hr ⟨wv,hv⟩]
   have e2:(u.r.ap fun v=>(s v).ap (vU r p)).rn r=u.r.ap s:=by
    rw [G_]
    refine QF kZ hw ?_
    rw [← G_,e1,h1]
   have e3:=(Fo hc hl EM ht hb).2 ⟨_,e1,by rw [FG hr g t hv] at h2;exact h2,(Gs _ e1).1 (by rw [e2];exact h3)⟩
   rw [h] at e3;cases e3
mutual
theorem Vl (r:Int→Int):∀ (t:Tm) (q:List Int),t.good=true→(t.rn r).fC q=t.fC q
 | .mk h ts,q,hg=>by
  by_cases hn:h<0
  ·have:=Bk hg hn
   simp only [Tm.args] at this
   rw [Ao (t:=.mk h ts) hn,this,vr,Tm.fC,Tm.fC]
  ·have ha:=qw hg
   simp only [Tm.args] at ha
   rw [zp (t:=.mk h ts) hn]
   simp only [Tm.head,Tm.args]
   rw [Tm.fC,Tm.fC,TY r ts q 0 ha]
theorem TY (r:Int→Int):∀ (ts:List Tm) (q:List Int) (i:Nat),(∀ t∈ts,t.good=true)→Tm.iY (ts.map (Tm.rn r)) q i=Tm.iY ts q i
 | [],_,_,_=>rfl
 | t :: ts,q,i,h=>by rw [aB,Tm.iY,Tm.iY,Vl r t _ (h t (by simp)),TY r ts q (i+1) fun x hx=>h x (by simp [hx])]
end
theorem QC (r:Int→Int):∀ (q:List Int) (t v:Tm),t.good=true→t.mo q=some v→(t.rn r).mo q=some (v.rn r)
 | [],t,v,_,h=>by rw [Tm.mo] at h ⊢;cases h;rfl
 | n :: q,t,v,hg,h=>by
  rw [Tm.mo] at h
  split at h
  ·cases h
  split at h
  ·rename_i h1 h2
   have hp:=Vc hg (by intro e;rw [e] at h2;simp at h2)
   have ha:=(uV (r:=r) (t:=t) (by omega)).2
   rw [Tm.mo,if_neg h1]
   have h3:n.toNat<(t.rn r).args.length:=by rw [ha,ak];exact h2
   rw [dif_pos h3]
   have e:(t.rn r).args[n.toNat]=(t.args[n.toNat]).rn r:=by simp [ha]
   rw [e]
   exact QC r q _ v (qw hg _ (aE h2)) h
  ·cases h
theorem PT (r:Int→Int):∀ (q:List Int) (t v u:Tm),t.good=true→t.mo q=some v→(t.gX q u).rn r=(t.rn r).gX q (u.rn r)
 | [],t,v,u,_,_=>by rw [Tm.gX,Tm.gX]
 | n :: q,t,v,u,hg,h=>by
  rw [Tm.mo] at h
  split at h
  ·cases h
  split at h
  ·rename_i h1 h2
   have hp:=Vc hg (by intro e;rw [e] at h2;simp at h2)
   obtain ⟨hh,ha⟩:=uV (r:=r) (t:=t) (by omega)
   have tE:t.args.getD n.toNat fI=t.args[n.toNat]:=by simp [List.getD,h2]
   have Nj:(t.rn r).args.getD n.toNat fI=(t.args[n.toNat]).rn r:=by simp [ha,List.getD,h2]
   have ih:=PT r q _ v u (qw hg _ (aE h2)) h
   rw [Tm.gX,Tm.gX,tE,Nj,← ih,hh,ha]
   rw [zp (t:=.mk t.head _) (show ¬ (Tm.mk t.head (t.args.set n.toNat ((t.args[n.toNat]).gX q u))).head<0 from by show ¬ t.head<0;omega)]
   show Tm.mk t.head ((t.args.set n.toNat _).map (Tm.rn r)) = _
   rw [pA]
  ·cases h
theorem SM:∀ (q:List Int) (t v u:Tm),t.good=true→u.good=true→t.mo q=some v→(t.gX q u).good=true
 | [],t,v,u,_,hu,_=>by rw [Tm.gX];exact hu
 | n :: q,t,v,u,hg,hu,h=>by
  rw [Tm.mo] at h
  split at h
  ·cases h
  split at h
  ·rename_i h1 h2
   have tE:t.args.getD n.toNat fI=t.args[n.toNat]:=by simp [List.getD,h2]
   have ih:=SM q _ v u (qw hg _ (aE h2)) hu h
   have Db:∀ (ts:List Tm) (i:Nat) (x:Tm),Tm.eH ts=true→x.good=true→Tm.eH (ts.set i x)=true:=by
    intro ts
    induction ts with
    | nil=>intro i x h _;exact h
    | cons a ts ihs =>
     intro i x h hx
     rw [Tm.eH,aC] at h
     cases i with
     | zero=>rw [c_,Tm.eH,hx,h.2];rfl
     | succ i=>rw [cW,Tm.eH,h.1,ihs i x h.2 hx];rfl
   rw [Tm.gX,tE]
   cases t with
   | mk k ts =>
    rw [Tm.good,aC] at hg
    show (Tm.mk k (ts.set n.toNat _)).good=true
    rw [Tm.good,bg,aC]
    exact ⟨hg.1,Db _ _ _ hg.2 ih⟩
  ·cases h
def ln.rn (r:Int→Int) (s:ln):ln:=⟨s.i,s.rt,s.p,s.t.rn r⟩
theorem Rh (r:Int→Int) (i:Nat) (b:Bool) {t:Tm} (hg:t.good=true):cO i b (t.rn r)=(cO i b t).map (ln.rn r):=by
 unfold cO
 rw [Vl r t [] hg,List.map_map]
 refine jT fun q hq=>?_
 obtain ⟨p',e,_,v,h2,_⟩:=FN t [] q hq
 rw [bh] at e
 subst e
 simp only [Function.comp,ln.rn,h2,QC r q t v hg h2,br]
theorem Tk (r:Int→Int):∀ (c:List Li) (i:Nat),(∀ l∈c,l.l.good=true∧l.r.good=true)→cr (iP r c) i=(cr c i).map (ln.rn r)
 | [],_,_=>rfl
 | l :: c,i,h=>by
  rw [show iP r (l :: c)=l.rn r :: iP r c from rfl,cr,cr,Tk r c (i+1) fun x hx=>h x (by simp [hx]),cD]
  congr 1
  unfold kh Li.rn
  simp only
  rw [Rh r i false (h l (by simp)).1,Rh r i true (h l (by simp)).2,cD]
theorem TP (hr:fp r p) {g:List Sy} {c:List Li} {s:ln} (hc:jm g c) (hp:sQ p c) (ht:gM g s.t) (hv:s.t.dj p):∀ us:List Un,(∀ u∈us,dP u=false∧gM g u.l∧gM g u.r) →
  ft (TT g (iP r c)) (s.rn r) us=(ft (TT g c) s us).map fun x=>(x.1,x.2.rn r)
 | [],_=>rfl
 | u :: us,h=>by
  obtain ⟨b1,b2,b3⟩:=h u (by simp)
  obtain ⟨h1,h2⟩:=Ysb hr hc hp b2 b3 ht hv b1
  rw [ft,ft]
  have e1:TT g (iP r c) u (s.rn r)=eV g (iP r c) u (s.t.rn r):=rfl
  have e2:TT g c u s=eV g c u s.t:=rfl
  rw [e1,e2,h1]
  split
  ·rename_i h3;rw [h2 h3];rfl
  ·exact TP hr hc hp ht hv us fun x hx=>h x (by simp [hx])
theorem SL (hr:fp r p) {g:List Sy} {c:List Li} {us:List Un} (hc:jm g c) (hp:sQ p c) (hu:∀ u∈us,dP u=false∧gM g u.l∧gM g u.r):∀ ss:List ln,(∀ s∈ss,gM g s.t∧s.t.dj p) →
  iI (TT g (iP r c)) us (ss.map (ln.rn r))=(iI (TT g c) us ss).map fun x=>(x.1.rn r,x.2.1,x.2.2.rn r)
 | [],_=>rfl
 | s :: ss,h=>by
  rw [aB,iI,iI,TP hr hc hp (h s (by simp)).1 (h s (by simp)).2 us hu]
  cases ft (TT g c) s us with
  | some x=>rfl
  | none=>exact SL hr hc hp hu ss fun x hx=>h x (by simp [hx])
theorem Ytz (r:Int→Int) {c:List Li} {s:ln} (hs:s∈cr c 0) (hg:∀ l∈c,l.l.good=true∧l.r.good=true) (t:Tm):kl (iP r c) (s.rn r) (t.rn r)=iP r (kl c s t):=by
 obtain ⟨j,hj,h1,h2,h3⟩:=zT c 0 s hs
 rw [bp] at h1
 have Jz:j<(iP r c).length:=by simp [iP,hj]
 rw [I4 hj h1,I4 (s:=s.rn r) Jz h1]
 have e:(iP r c)[j]=(c[j]).rn r:=by simp [iP]
 rw [e]
 have Wx:=hg _ (aE hj)
 have rP:((c[j]).rn r).side s.rt=((c[j]).side s.rt).rn r:=by unfold Li.side Li.rn;split<;>rfl
 have Db:((c[j]).side s.rt).good=true:=by unfold Li.side;split;exact Wx.2;exact Wx.1
 show (iP r c).set j (((c[j]).rn r).qt s.rt ((((c[j]).rn r).side s.rt).gX s.p (t.rn r))) = _
 rw [rP,← PT r s.p _ _ t Db h2]
 unfold iP
 rw [pA]
 congr 1
 unfold Li.qt Li.rn
 split<;>rfl
theorem Yk2 (hr:fp r p) {g:List Sy} {us:List Un} {c:List Li} (hc:jm g c) (hp:sQ p c) (hu:∀ u∈us,dP u=false∧gM g u.l∧gM g u.r) :
  eF g us (iP r c)=(iP r (eF g us c).1,(eF g us c).2):=by
 have hg:∀ l∈c,l.l.good=true∧l.r.good=true:=fun l hl=>⟨(Cv hc hp l hl).1.1,(Cv hc hp l hl).2.1⟩
 have NY:∀ s∈cr c 0,gM g s.t∧s.t.dj p:=fun s hs=>by
  refine ⟨US hc s hs,?_⟩
  obtain ⟨j,hj,h1,h2,h3⟩:=zT c 0 s hs
  have Dt:=hp _ (aE hj)
  exact Vo _ _ _ (by unfold Li.side;split;exact Dt.2;exact Dt.1) h2
 have h1:=SL hr hc hp hu (cr c 0) NY
 unfold eF ld
 rw [Tk r c 0 hg,h1]
 rcases D3 (TT g c) us (cr c 0) with ⟨f1,_⟩ | ⟨k,hk,x,f1,f2,_⟩
 ·rw [f1];rfl
 ·rw [f1]
  simp only [bu]
  have hs:=aE hk
  obtain ⟨m1,m2,m3⟩:=HT f2
  rw [Ytz r hs hg]
  obtain ⟨b1,b2,b3⟩:=hu _ m1
  have fT:=NY _ hs
  obtain ⟨t1,_⟩:=Ys b3 fT.1 m3
  have t2:=Zzs b2 b3 fT.1 b1 m3 fT.2
  have ju:∀ l∈kl c (cr c 0)[k] x.2,kj p l:=fun l hl=>by
   obtain ⟨j,hj,g1,g2,g3⟩:=zT c 0 _ hs
   rw [bp] at g1
   rw [I4 hj g1] at hl
   have Dt:=Cv hc hp _ (aE hj)
   have rP:qE p ((c[j]).side ((cr c 0)[k]).rt):=by unfold Li.side;split;exact Dt.2;exact Dt.1
   have hx:qE p x.2:=by rw [m2];exact ⟨(p7 (mW t1.1).1).2.2,t2⟩
   have k_:qE p (((c[j]).side ((cr c 0)[k]).rt).gX ((cr c 0)[k]).p x.2):=⟨SM _ _ _ _ rP.1 hx.1 g2,VF _ _ _ rP.2 hx.2⟩
   rcases nK hl with hl | rfl
   ·exact Cv hc hp l hl
   ·unfold Li.qt
    split
    ·exact ⟨Dt.1,k_⟩
    ·exact ⟨k_,Dt.2⟩
  rw [KX hr g ju]
  split<;>rfl
end
theorem Uw:∀ (n:Nat) (l:List Int),l.Nodup→(∀ v∈l,0≤v∧v<n)→l.length≤n
 | 0,l,_,h=>by
  cases l with
  | nil=>exact ah _
  | cons a l=>have:=h a (by simp);omega
 | n+1,l,hn,h=>by
  have h1:=Uw n (l.erase (n:Int)) (hn.erase _) (fun v hv=>by
   rw [hn.mem_erase_iff] at hv
   have:=h v hv.2
   have:=hv.1
   omega)
  have h2:l.length≤(l.erase (n:Int)).length+1:=by
   rw [List.length_erase];split<;>omega
  omega
theorem Yjt (S:List Int) (v:Int):∃ l,j6 S v=S++l:=by
 unfold j6;split
 ·exact ⟨[],by simp⟩
 ·exact ⟨[v],rfl⟩
theorem LQ (S:List Int) (v w:Int):w∈j6 S v↔w∈S∨w=v:=by
 unfold j6;split
 ·rename_i h
  exact ⟨.inl,fun h2=>h2.elim id fun e=>e ▸ h⟩
 ·simp
theorem YZ {S:List Int} (v:Int) (h:S.Nodup):(j6 S v).Nodup:=by
 unfold j6;split
 ·exact h
 ·rename_i hn
  rw [gO]
  refine ⟨h,by simp,fun a ha b hb e=>?_⟩
  rw [aM.1 hb] at e
  exact hn (e ▸ ha)
theorem Yph {S l:List Int} {v:Int} (h:v∈S):(S++l).idxOf v=S.idxOf v:=by rw [List.idxOf_append,if_pos h]
mutual
theorem Ypo:∀ (t:Tm) (S:List Int), ∃ l,(t.num S).2=S++l
 | .mk h ts,S=>by
  rw [Tm.num];split
  ·exact Yjt S _
  ·exact Ly ts S
theorem Ly:∀ (ts:List Tm) (S:List Int), ∃ l,(Tm.fx ts S).2=S++l
 | [],S=>⟨[],by simp [Tm.fx]⟩
 | t :: ts,S=>by
  rw [Tm.fx]
  obtain ⟨l,hl⟩:=Ypo t S
  obtain ⟨m,hm⟩:=Ly ts (t.num S).2
  exact ⟨l++m,by simp only;rw [hm,hl,cx]⟩
end
mutual
theorem Yha:∀ (t:Tm) (S:List Int),S.Nodup→(t.num S).2.Nodup
 | .mk h ts,S,hn=>by
  rw [Tm.num];split
  ·exact YZ _ hn
  ·exact Kv ts S hn
theorem Kv:∀ (ts:List Tm) (S:List Int),S.Nodup→(Tm.fx ts S).2.Nodup
 | [],S,hn=>by rw [Tm.fx];exact hn
 | t :: ts,S,hn=>by rw [Tm.fx];exact Kv ts _ (Yha t S hn)
end
mutual
theorem P3 {P:Int→Prop}:∀ (t:Tm) (S:List Int),(∀ v∈S,P v)→t.dj P→∀ v∈(t.num S).2,P v
 | .mk h ts,S,hS,ht=>by
  rw [Tm.dj] at ht
  rw [Tm.num];split
  ·rename_i ff
   intro v hv
   rcases (LQ S _ v).1 hv with hv | rfl
   ·exact hS v hv
   ·exact ht.1 ff
  ·exact LH ts S hS ht.2
theorem LH {P:Int→Prop}:∀ (ts:List Tm) (S:List Int),(∀ v∈S,P v)→Tm.fA P ts→∀ v∈(Tm.fx ts S).2,P v
 | [],S,hS,_=>by rw [Tm.fx];exact hS
 | t :: ts,S,hS,ht=>by rw [Tm.fA] at ht;rw [Tm.fx];exact LH ts _ (P3 t S hS ht.1) ht.2
end
mutual
theorem Yxb:∀ (t:Tm) (S:List Int) (T:List Int),t.good=true→(∃ l,T=(t.num S).2++l)→(t.num S).1=t.rn (fun v=>(T.idxOf v:Int))∧t.dj (· ∈ T)
 | .mk h ts,S,T,hg,⟨l,hT⟩=>by
  by_cases ff:h<0
  ·rw [Tm.num,if_pos ff] at hT ⊢
   have hm:(-1 - h)∈j6 S (-1 - h):=(LQ S _ _).2 (.inr rfl)
   have ha:=Bk hg ff
   simp only [Tm.args] at ha
   subst ha
   refine ⟨?_,?_⟩
   ·rw [Ao (t:=.mk h []) ff]
    show Tm.mk _ []=Tm.mk _ []
    rw [show (Tm.mk h []).head=h from rfl,hT,Yph hm]
   ·rw [Tm.dj]
    exact ⟨fun _=>by rw [hT];exact gN _ hm,trivial⟩
  ·rw [Tm.num,if_neg ff] at hT ⊢
   obtain ⟨a1,a2⟩:=Me ts S T (qw hg) ⟨l,hT⟩
   refine ⟨?_,?_⟩
   ·rw [zp (t:=.mk h ts) ff]
    show Tm.mk _ _=Tm.mk _ _
    rw [a1];rfl
   ·rw [Tm.dj]
    exact ⟨fun k=>absurd k ff,a2⟩
theorem Me:∀ (ts:List Tm) (S:List Int) (T:List Int),(∀ t∈ts,t.good=true)→(∃ l,T=(Tm.fx ts S).2++l)→(Tm.fx ts S).1=ts.map (Tm.rn fun v=>(T.idxOf v:Int))∧Tm.fA (· ∈ T) ts
 | [],S,T,_,_=>⟨by rw [Tm.fx];rfl,trivial⟩
 | t :: ts,S,T,hg,⟨l,hT⟩=>by
  rw [Tm.fx] at hT ⊢
  simp only at hT ⊢
  obtain ⟨m,hm⟩:=Ly ts (t.num S).2
  obtain ⟨a1,a2⟩:=Yxb t S T (hg t (by simp)) ⟨m++l,by rw [hT,hm,cx]⟩
  obtain ⟨b1,b2⟩:=Me ts (t.num S).2 T (fun x hx=>hg x (by simp [hx])) ⟨l,hT⟩
  exact ⟨by rw [a1,b1];rfl,by rw [Tm.fA];exact ⟨a2,b2⟩⟩
end
def pv (c:List Li):List Int:=(Tm.fx (cP c) []).2
def A4 (c:List Li):Int→Int:=fun v=>((pv c).idxOf v:Int)
theorem OU (r:Int→Int):∀ c:List Li,vd c ((cP c).map (Tm.rn r))=iP r c
 | []=>rfl
 | l :: c=>by
  rw [show cP (l :: c)=l.l :: l.r :: cP c from rfl,aB,aB,vd,OU r c];rfl
mutual
theorem Yr:∀ t:Tm,t.good=true→t.dj fun v=>0≤v∧v<256
 | .mk h ts,hg=>by
  rw [Tm.dj]
  have:=(zk hg).1
  simp only [Tm.head] at this
  exact ⟨fun hn=>by omega,Kg ts (qw hg)⟩
theorem Kg:∀ ts:List Tm,(∀ t∈ts,t.good=true)→Tm.fA (fun v=>0≤v∧v<256) ts
 | [],_=>trivial
 | t :: ts,h=>⟨Yr t (h t (by simp)),Kg ts fun x hx=>h x (by simp [hx])⟩
end
theorem RQ {g:List Sy} {d:List Li} (hd:jm g d):∀ t∈cP d,t.good=true:=fun t ht=>by
 unfold cP at ht
 rw [lQ] at ht
 obtain ⟨l,hl,ht⟩:=ht
 obtain ⟨a1,a2⟩:=tX hd hl
 simp only [aR,dR,or_false] at ht
 rcases ht with rfl | rfl
 ·exact (p7 (mW a1.1).1).2.2
 ·exact (p7 (mW a2.1).1).2.2
theorem Zza {p:Int→Prop} {d:List Li} (h:Tm.fA p (cP d)):sQ p d:=fun l hl=>by
 rw [Fw] at h
 have hm:∀ t∈[l.l,l.r],t∈cP d:=fun t ht=>by
  unfold cP
  rw [lQ]
  exact ⟨l,hl,ht⟩
 exact ⟨h _ (hm _ (by simp)),h _ (hm _ (by simp))⟩
theorem Qz {g:List Sy} {d:List Li} (hd:jm g d):fp (A4 d) (· ∈ pv d)∧sQ (· ∈ pv d) d∧iW d=iP (A4 d) d:=by
 have hg:=RQ hd
 obtain ⟨h1,h2⟩:=Me (cP d) [] (pv d) hg ⟨[],by simp [pv]⟩
 have pg:(pv d).Nodup:=Kv (cP d) [] kU
 have hv:∀ v∈pv d,0≤v∧v<256:=LH (P:=fun v=>0≤v∧v<256) (cP d) [] (fun v hv=>by cases hv) (Kg _ hg)
 have hlen:=Uw 256 _ pg (by simpa using hv)
 refine ⟨⟨fun v w hv hw e=>?_,fun v hv=>?_,fun v h=>(hv v h).1⟩,Zza h2,?_⟩
 ·unfold A4 at e
  have e2:(pv d).idxOf v=(pv d).idxOf w:=by omega
  have l1:=i_ hv
  have l2:=i_ hw
  have g1:=List.getElem_idxOf l1
  have g2:=List.getElem_idxOf l2
  rw [← g1,← g2]
  simp only [e2]
 ·have:=i_ hv
  unfold A4;omega
 ·unfold iW
  rw [h1,OU];rfl
section
variable {r:Int→Int} {p:Int→Prop}
def Bd.rn (r:Int→Int) (b:Bd):Bd:=⟨b.v,b.t.rn r⟩
def tn (p:Int→Prop) (m:List Bd):Prop:=∀ b∈m,qE p b.t
theorem I3 (v:Int):∀ m:List Bd,(m.map (Bd.rn r)).find? (fun c=>c.v==v)=(m.find? fun c=>c.v==v).map (Bd.rn r)
 | []=>rfl
 | b :: m=>by
  rw [aB,gK,gK,show (Bd.rn r b).v=b.v from rfl]
  cases b.v==v
  ·exact I3 v m
  ·rfl
theorem Ku {α:Type} {l:List α} {f g : α→Bool} (h:∀ x∈l,f x=g x):l.any f=l.any g:=by
 induction l with
 | nil=>rfl
 | cons a l ih=>rw [eh,eh,h a (by simp),ih fun x hx=>h x (by simp [hx])]
theorem Zv1 {α:Type} {l:List α} {f g : α→Bool} (h:∀ x∈l,f x=g x):l.find? f=l.find? g:=by
 induction l with
 | nil=>rfl
 | cons a l ih=>rw [gK,gK,h a (by simp),ih fun x hx=>h x (by simp [hx])]
theorem Ynw {t:Tm} (h:qE p t):∀ u∈t.args,qE p u:=fun u hu=>⟨qw h.1 u hu,zY h.2 u hu⟩
theorem Yzp (hr:fp r p):∀ (s:List (Tm×Tm)) (m:List Bd),(∀ x∈s,qE p x.2)→tn p m →
  fD (s.map fun x=>(x.1,x.2.rn r)) (m.map (Bd.rn r))=(fD s m).map (List.map (Bd.rn r))∧∀ m',fD s m=some m'→tn p m':=by
 intro s m
 induction s,m using fD.induct with
 | case1 m =>
  intro hs hm
  refine ⟨by rw [aP,fD,fD];rfl,fun m' h=>?_⟩
  rw [fD] at h;cases h;exact hm
 | case2 x q m hv c hf he ih =>
  intro hs hm
  have hc:=hm c (bJ hf)
  obtain ⟨i1,i2⟩:=ih (fun y hy=>hs y (by simp [hy])) hm
  refine ⟨?_,fun m' h=>?_⟩
  ·rw [aB,fD,fD,if_pos hv,if_pos hv,hf]
   simp only
   rw [I3,hf]
   simp only [bu,if_pos he]
   rw [if_pos (by show c.t.rn r = _;rw [he])]
   exact i1
  ·rw [fD,if_pos hv,hf] at h
   simp only [if_pos he] at h
   exact i2 m' h
 | case3 x q m hv c hf he =>
  intro hs hm
  have hc:=hm c (bJ hf)
  have hx:=hs x (by simp)
  refine ⟨?_,fun m' h=>?_⟩
  ·rw [aB,fD,fD,if_pos hv,if_pos hv,hf]
   simp only
   rw [I3,hf]
   simp only [bu,if_neg he]
   rw [show (Bd.rn r c).t=c.t.rn r from rfl,if_neg (fun k=>he (Ez hr _ _ hc.1 hx.1 hc.2 hx.2 k))]
   rfl
  ·rw [fD,if_pos hv,hf] at h
   simp only [if_neg he] at h
   cases h
 | case4 x q m hv hf ih =>
  intro hs hm
  have hx:=hs x (by simp)
  obtain ⟨i1,i2⟩:=ih (fun y hy=>hs y (by simp [hy])) (fun b hb=>by
   rcases aW.1 hb with hb | hb
   ·exact hm b hb
   ·rw [aM.1 hb];exact hx)
  refine ⟨?_,fun m' h=>?_⟩
  ·rw [aB,fD,fD,if_pos hv,if_pos hv,hf]
   simp only
   rw [I3,hf]
   simp only [iN]
   rw [cD] at i1
   exact i1
  ·rw [fD,if_pos hv,hf] at h
   exact i2 m' h
 | case5 x q m hv hc =>
  intro hs hm
  have hx:=hs x (by simp)
  refine ⟨?_,fun m' h=>?_⟩
  ·rw [aB,fD,fD,if_neg hv,if_neg hv,if_pos hc]
   simp only
   rw [if_pos]
   ·rfl
   by_cases hn:x.2.head<0
   ·left
    have:=(Ck hr hx.2).2 hn
    omega
   ·rw [(uV hn).1,(uV hn).2,ak];exact hc
  ·rw [fD,if_neg hv,if_pos hc] at h
   cases h
 | case6 x q m hv hc ih =>
  intro hs hm
  have hx:=hs x (by simp)
  have hn:¬ x.2.head<0:=by
   intro k;apply hc;left;omega
  obtain ⟨i1,i2⟩:=ih (fun y hy=>by
   rcases aW.1 hy with hy | hy
   ·exact Ynw hx _ (cZ (cU.1 hy)).2
   ·exact hs y (by simp [hy])) hm
  refine ⟨?_,fun m' h=>?_⟩
  ·rw [aB,fD,fD,if_neg hv,if_neg hv,if_neg hc]
   simp only
   rw [if_neg (by rw [(uV hn).1,(uV hn).2,ak];exact hc),(uV hn).2,← i1,cD,List.map_reverse]
   have:∀ a b:List Tm,a.zip (b.map (Tm.rn r))=(a.zip b).map fun x=>(x.1,x.2.rn r):=by
    intro a
    induction a with
    | nil=>intro b;rfl
    | cons y a ih=>intro b;cases b with
     | nil=>rfl
     | cons z b=>rw [aB,fm,fm,aB,ih b]
   rw [this]
  ·rw [fD,if_neg hv,if_neg hc] at h
   exact i2 m' h
theorem PD (hr:fp r p) {b:List Bd} {q t:Tm} (ht:qE p t) (hb:tn p b):lh (b.map (Bd.rn r)) q (t.rn r)=(lh b q t).map (List.map (Bd.rn r))∧∀ m,lh b q t=some m→tn p m :=
 Yzp hr [(q,t)] b (fun x hx=>by rw [aM.1 hx];exact ht) hb
theorem OG (hr:fp r p) {b:List Bd} {a:Li} {x y:Tm} (hx:qE p x) (hy:qE p y) (hb:tn p b) {F G:List Bd→Bool} (hF:∀ m,tn p m→G (m.map (Bd.rn r))=F m):kr (b.map (Bd.rn r)) a (x.rn r) (y.rn r) G=kr b a x y F:=by
 unfold kr
 obtain ⟨h1,h2⟩:=PD hr (q:=a.l) hx hb
 rw [h1]
 cases hm:lh b a.l x with
 | none=>rfl
 | some m =>
  obtain ⟨h3,h4⟩:=PD hr (q:=a.r) hy (h2 m hm)
  simp only [bu]
  rw [h3]
  cases hk:lh m a.r y with
  | none=>rfl
  | some k=>exact hF k (h4 k hk)
theorem Yqr (hr:fp r p) {l:Li} (h:kj p l):la (l.rn r)=la l:=by
 unfold la
 rw [show (l.rn r).l=l.l.rn r from rfl,show (l.rn r).r=l.r.rn r from rfl]
 simp only [Ln hr h.1,Ln hr h.2]
theorem Pa (hr:fp r p) {b:List Bd} {a l:Li} (hl:kj p l) (hb:tn p b) {F G:List Bd→Bool} (hF:∀ m,tn p m→G (m.map (Bd.rn r))=F m):lN (b.map (Bd.rn r)) a (l.rn r) G=lN b a l F:=by
 unfold lN
 rw [Yqr hr hl,show (l.rn r).l=l.l.rn r from rfl,show (l.rn r).r=l.r.rn r from rfl,OG hr hl.1 hl.2 hb hF,OG hr hl.2 hl.1 hb hF]
theorem PQ {d:List Li} {k:Nat} (hk:k<d.length):(iP r d).getD k jd=(d.getD k jd).rn r∧d.getD k jd∈d:=by
 unfold iP
 simp [List.getD,hk]
theorem JW (hr:fp r p) {d:List Li} (hd:∀ l∈d,kj p l):∀ (c:List Li) (us:List Bool) (b:List Bd),tn p b→ml (iP r d) c us (b.map (Bd.rn r))=ml d c us b
 | [],_,_,_=>by rw [ml,ml]
 | a :: c,us,b,hb=>by
  rw [ml,ml,show (iP r d).length=d.length by unfold iP;simp]
  refine Ku fun k hk=>?_
  obtain ⟨e1,e2⟩:=PQ (r:=r) (d:=d) (k:=k) (by simpa using hk)
  rw [e1,show ((d.getD k jd).rn r).neg=(d.getD k jd).neg from rfl,Pa hr (hd _ e2) hb fun m hm=>JW hr hd c _ m hm]
theorem Yu2 (hr:fp r p) {c d:List Li} (hd:∀ l∈d,kj p l):rE c (iP r d)=rE c d:=by
 unfold rE
 have h:=JW hr hd c (gF d) [] (fun b hb=>by cases hb)
 have hn:gF (iP r d)=gF d:=by unfold gF iP;simp
 rw [hn,show (iP r d).length=d.length by unfold iP;simp,← h];rfl
theorem Yvq (hr:fp r p) {c d:List Li} (hd:∀ l∈d,kj p l):qP c (iP r d)=qP c d:=by
 unfold qP
 rw [show (iP r d).length=d.length by unfold iP;simp]
 refine Zv1 fun k hk=>?_
 obtain ⟨e1,e2⟩:=PQ (r:=r) (d:=d) (k:=k) (by simpa using hk)
 have hn:gF (iP r d)=gF d:=by unfold gF iP;simp
 refine Ku fun i hi=>?_
 unfold cutAt
 rw [e1,hn,show ((d.getD k jd).rn r).neg=(d.getD k jd).neg from rfl]
 congr 1
 exact Pa hr (hd _ e2) (b:=[]) (fun b hb=>by cases hb) fun m hm=>JW hr hd _ _ m hm
theorem Pr (hr:fp r p) {l:Li} (h:kj p l):lg (l.rn r)=lg l:=by
 unfold lg
 refine decide_eq_decide.2 ⟨fun e=>Ez hr _ _ h.1.1 h.2.1 h.1.2 h.2.2 e,fun e=>?_⟩
 show l.l.rn r=l.r.rn r
 rw [e]
end
end Go.Proofs
namespace Go.Proofs
open Go Go.c8
attribute [local go_sem] Nat.reduceAdd Nat.reduceSub Nat.reduceMul Nat.reduceLeDiff Nat.reduceEqDiff Nat.reduceBEq Nat.reduceLT Nat.le_refl Int.natCast_zero Nat.sub_zero List.length_map Int.toNat_natCast Int.natCast_one Int.reduceEq Int.reduceLT Int.reduceLE Int.reduceNe Int.sub_zero Int.zero_add Int.toNat_one
theorem Lp:aJ Tryz.prog 45 [] (.ps 4 (syms sg)):=by
 refine aJ.begin (rs:=[.tmp 0]) (m:=6) 1000 Tryz.func45 rfl rfl rfl (by decide) (dK _) ?_
 have e1:syms sg=[.agg [.str ⟨#[36,116,114,117,101]⟩, .int .i64 0, .int .i64 1, .bool true], .agg [.str ⟨#[97]⟩, .int .i64 0, .int .i64 1, .bool false], .agg [.str ⟨#[102]⟩, .int .i64 1, .int .i64 1, .bool false], .agg [.str ⟨#[112]⟩, .int .i64 1, .int .i64 1, .bool true]]:=rfl
 simp only [go_sem,e1]
theorem Eg (t:Tm):aJ Tryz.prog 44 [t.aO] (.ps 5 (lits (iB t))):=by
 refine aJ.begin (rs:=[.tmp 2]) (m:=8) 1000 Tryz.func44 rfl rfl rfl (by decide) (cz _) ?_
 have h1:=I1 3 [t]
 have h2:=I1 0 []
 simp only [go_sem,fJ]
 refine aq.bV [1] h1 ?_ (by simp [go_sem,dH]) ?_
 ·simp only [go_sem,rH,rI,aB,aP,dh]
 rw [show bP (Tm.mk 3 [t]).aO=false from rfl]
 refine aK.go 1000 ?_
 simp only [go_sem,rH,rI]
 refine aq.bV [] h2 ?_ (by simp [go_sem,dH]) ?_
 ·simp only [go_sem,aP]
 rw [jj];simp only [ite_self]
 refine aK.go 1000 ?_
 have e1:lits (iB t)=[.agg [.bool false, .int .i64 (Tm.mk 3 [t]).head, .ps 2 ((Tm.mk 3 [t]).args.map Tm.aO), .int .i64 (Tm.mk 0 []).head, .ps 2 ((Tm.mk 0 []).args.map Tm.aO)]]:=rfl
 simp only [go_sem,fJ,e1]
def n9 (c:List Li):Bool:=iR c&&(decide (c.length≤6)||decide (32<c.length))
theorem UX (c:List Li):aJ Tryz.prog 22 [.ps 5 (lits c)] (.bool (n9 c)):=by
 refine aJ.begin (rs:=[.tmp 2]) (m:=14) 1000 Tryz.func22 rfl rfl rfl (by decide) trivial ?_
 unfold n9
 simp only [go_sem]
 refine aq.bV [] (Sj c) (cJ _ _ _) ⟨cz _,trivial⟩ ?_
 simp only [bP,bY,bX,if_true]
 refine aK.go 1000 ?_
 cases h:iR c
 ·simp only [go_sem]
 ·by_cases h1:c.length≤6
  ·have nP:(c.length:Int)≤6:=by omega
   simp only [go_sem,gj,nP,h1,decide_true,fU,Bool.and_self]
  ·have nP:¬ (c.length:Int)≤6:=by omega
   by_cases h2 : 32<c.length
   ·have uY:(32:Int)<(c.length:Int):=by omega
    simp only [go_sem,gj,nP,h1,uY,h2,decide_true,decide_false,Bool.or_true,Bool.and_self]
   ·have uY:¬ (32:Int)<(c.length:Int):=by omega
    simp only [go_sem,gj,nP,h1,uY,h2,decide_true,decide_false,ou,ib]
def pE (c:List Li):Bool:=!n9 c || !pK c
def sv (g:List Sy) (es:List (List Li)) (c:List Li):Bool:=if es.length≤8∧es.any pE=true then false else lM g&&o8 es&&pK c&&n9 c
theorem Ynp (g:List Sy) (es:List (List Li)) (c:List Li) (hc:c.length≤2600000000000):aJ Tryz.prog 8 [.ps 4 (syms g), .ps 1 (da es), .ps 5 (lits c)] (.bool (sv g es c)):=by
 refine aJ.begin (rs:=[.tmp 6]) (m:=44) 1000 Tryz.func8 rfl rfl rfl (by decide) trivial ?_
 obtain ⟨Z,hZ⟩:∃ Z,sv g es c=Z:=⟨_,rfl⟩
 rw [hZ]
 unfold sv at hZ
 simp only [go_sem]
 refine aK.dc (ι:={i:Nat // i≤es.length∧(es.length≤8→(es.drop i).any pE=es.any pE)∧(i=0∨es.length≤8)}) 1000 (fun q=>f_ 47 [(0, .ps 4 (syms g)),(1, .ps 1 (da es)),(2, .ps 5 (lits c)),(6, .bool false),(7, .int .i64 q.1)])
  (fun _=>[]) (fun q=>es.length - q.1) ⟨0,av _,fun _=>rfl, .inl rfl⟩ ?_ (fun _=>av _) ?_
 ·simp only [go_sem,dK,fy,cz]
 ·rintro ⟨i,hi,aQ,h8⟩
  have hend:(es.length≤8→es.any pE=false)→(lM g&&o8 es&&pK c&&n9 c)=Z:=fun h=>by
   rw [if_neg (by rintro ⟨a,b⟩;rw [h a] at b;cases b)] at hZ
   exact hZ
  have hS:=Zz9 g
  have hE:=Yi0 es
  have V6:=TJ c hc
  have V7:=UX c
  by_cases bG:(i:Int)<es.length
  ·have aZ:i<es.length:=by omega
   by_cases Jr:es.length≤8
   ·have AB:(es.length:Int)≤8:=by omega
    have hw:IntKind.i64.wrap ((i:Int)+1)=((i+1:Nat):Int):=by rw [eC (by omega)];omega
    have hp:=aQ Jr
    rw [ao aZ,eh] at hp
    have g1:=Ae aZ
    have NS:=UX es[i]
    have NR:=fun h:es[i].length≤2600000000000=>TJ es[i] h
    have hlen:n9 es[i]=true→es[i].length≤40:=fun h=>by
     unfold n9 at h
     rw [aC] at h
     exact (Se h.1).2
    generalize es[i]=r at *
    have pa:pE r=true→Z=false:=fun h=>by
     rw [h,fU] at hp
     rw [if_pos ⟨Jr,hp.symm⟩] at hZ
     exact hZ.symm
    have ju:pE r=false→(es.drop (i+1)).any pE=es.any pE:=fun h=>by rw [h,du] at hp;exact hp
    simp only [go_sem,nM,bG,AB,g1]
    refine ⟨by omega,?_⟩
    refine aq.bV [] NS (cJ _ _ _) ⟨cz _,trivial⟩ ?_
    simp only [bP,bY,bX,if_true]
    refine aK.go 1000 ?_
    cases q1:n9 r
    ·have:=pa (by unfold pE;rw [q1];rfl)
     subst this
     simp only [go_sem]
     refine aK.go 1000 ?_
     simp only [go_sem]
    ·have hr:=NR (by have:=hlen q1;omega)
     simp only [go_sem,nM,bG,AB,g1]
     refine ⟨by omega,?_⟩
     refine aq.bV [] hr (cJ _ _ _) ⟨cz _,trivial⟩ ?_
     simp only [bP,bY,bX,if_true]
     refine aK.go 1000 ?_
     cases q2:pK r
     ·have:=pa (by unfold pE;rw [q1,q2];rfl)
      subst this
      simp only [go_sem]
      refine aK.go 1000 ?_
      simp only [go_sem]
     ·simp only [go_sem,hw]
      refine ⟨⟨i+1,by omega,fun _=>ju (by unfold pE;rw [q1,q2];rfl), .inr Jr⟩,?_,by simp only;omega⟩
      simp only [go_sem,dK,fy,cz]
   ·have AB:¬ (es.length:Int)≤8:=by omega
    have hz:=hend fun h=>absurd h Jr
    clear hend
    simp only [go_sem,nM,bG,AB]
    refine aK.go 1000 ?_
    simp only [go_sem]
    refine aq.bV [] hS (cJ _ _ _) ⟨dK _,trivial⟩ ?_
    simp only [bP,bY,bX,if_true]
    refine aK.go 1000 ?_
    cases e1:lM g
    ·rw [e1] at hz
     rw [← hz]
     simp only [go_sem]
    ·simp only [go_sem]
     refine aq.bV [] hE (cJ _ _ _) ⟨fy _,trivial⟩ ?_
     simp only [bP,bY,bX,if_true]
     refine aK.go 1000 ?_
     cases e2:o8 es
     ·rw [e1,e2] at hz
      rw [← hz]
      simp only [go_sem]
     ·simp only [go_sem]
      refine aq.bV [] V6 (cJ _ _ _) ⟨cz _,trivial⟩ ?_
      simp only [bP,bY,bX,if_true]
      refine aK.go 1000 ?_
      cases e3:pK c
      ·rw [e1,e2,e3] at hz
       rw [← hz]
       simp only [go_sem]
      ·simp only [go_sem]
       refine aq.bV [] V7 (cJ _ _ _) ⟨cz _,trivial⟩ ?_
       simp only [bP,bY,bX,if_true]
       refine aK.go 1000 ?_
       rw [e1,e2,e3,cy,cy,cy] at hz
       rw [hz]
       simp only [go_sem]
  ·have dV:i=es.length:=by omega
   subst dV
   have hz:=hend fun h=>by rw [← aQ h,aV];rfl
   simp only [go_sem,nM,bG]
   refine aK.go 1000 ?_
   simp only [go_sem]
   refine aq.bV [] hS (cJ _ _ _) ⟨dK _,trivial⟩ ?_
   simp only [bP,bY,bX,if_true]
   refine aK.go 1000 ?_
   cases e1:lM g
   ·rw [e1] at hz
    rw [← hz]
    simp only [go_sem]
   ·simp only [go_sem]
    refine aq.bV [] hE (cJ _ _ _) ⟨fy _,trivial⟩ ?_
    simp only [bP,bY,bX,if_true]
    refine aK.go 1000 ?_
    cases e2:o8 es
    ·rw [e1,e2] at hz
     rw [← hz]
     simp only [go_sem]
    ·simp only [go_sem]
     refine aq.bV [] V6 (cJ _ _ _) ⟨cz _,trivial⟩ ?_
     simp only [bP,bY,bX,if_true]
     refine aK.go 1000 ?_
     cases e3:pK c
     ·rw [e1,e2,e3] at hz
      rw [← hz]
      simp only [go_sem]
     ·simp only [go_sem]
      refine aq.bV [] V7 (cJ _ _ _) ⟨cz _,trivial⟩ ?_
      simp only [bP,bY,bX,if_true]
      refine aK.go 1000 ?_
      rw [e1,e2,e3,cy,cy,cy] at hz
      rw [hz]
      simp only [go_sem]
theorem RA (g:List Sy) (es:List (List Li)) (c:List Li) (h:qC es c) :
  aJ Tryz.prog 11 [.ps 4 (syms g), .ps 1 (da es), .ps 5 (lits c)] (.dA [.bool (decide ((ix g es c).1.gone≠0)), .int .i64 (ix g es c).2]):=by
 refine aJ.begin (rs:=[.tmp 6, .tmp 7]) (m:=18) 1000 Tryz.func11 rfl rfl rfl (by decide) ⟨trivial,trivial,trivial⟩ ?_
 have hF:=Ja g es c h
 generalize ix g es c=z at *
 obtain ⟨⟨d,u,gn,wh⟩,e⟩:=z
 unfold Si.aO at hF
 simp only [go_sem]
 refine aq.bV [] hF (cJ _ _ _) ⟨dK _,fy _,cz _,trivial⟩ ?_
 rw [jj];simp only [ite_self]
 refine aK.go 1000 ?_
 simp only [go_sem]
theorem Yrp:ix sg nY (iB (iA iz))=(⟨iB iz,[0],0, -1⟩,0):=by kernel_rfl
theorem Ysy:ix sg (nY++[iB (iA gY)]) (iB (iA iz))=(⟨iB iz,[0],0, -1⟩,0):=by kernel_rfl
theorem Ysa:ix sg (nY++[iB gY]) (iB (iA iz))=(⟨iB iz,[0],2,1⟩,0):=by kernel_rfl
theorem TD:(iA iz).fit:=by simp [iA,iz,Tm.fit,Tm.fits,ov]
theorem UT (t:Tm) (h:t.size<100) (hf:t.fit):qC (nY++[iB t]) (iB (iA iz)):=⟨by simp [nY],fun x hx=>by
 rcases aR.1 hx with rfl | hx
 ·exact Mc _ (by decide) TD
 ·rcases aW.1 hx with hx | hx
  ·exact Pc x hx
  ·rw [aM.1 hx];exact Mc t h hf⟩
set_option maxRecDepth 10000 in
theorem Sb:aJ Tryz.prog 12 [] (.bool true):=by
 refine aJ.begin (rs:=[.tmp 0]) (m:=106) 1000 Tryz.func12 rfl rfl rfl (by decide) trivial ?_
 have hv:=Yqt 0 (by omega)
 rw [show Tm.mk (-1 - 0) []=gY from rfl] at hv
 have vE:aJ Tryz.prog 43 [.int .i64 1, .ps 2 []] iz.aO:=I1 1 []
 simp only [go_sem]
 refine aq.bV [] hv (by simp only [go_sem]) ⟨trivial,trivial⟩ ?_
 rw [jj];simp only [ite_self]
 refine aK.go 1000 ?_
 simp only [go_sem,fJ]
 refine aq.bV [] vE (by simp only [go_sem]) ⟨trivial,trivial,trivial⟩ ?_
 rw [jj];simp only [ite_self]
 refine aK.go 1000 ?_
 simp only [go_sem,fJ]
 refine aK.draw [.no,⟨some 2,[2],[]⟩,⟨none,[2],[]⟩,⟨none,[],[2]⟩, .no,⟨some 3,[3],[]⟩] 2 4 mixed rfl rfl (by decide) ?_
 simp only [go_sem,dC]
 have r0:gY.aO = .agg [.int .i64 gY.head, .ps 2 (List.map Tm.aO gY.args)]:=dh _
 have r1:iz.aO = .agg [.int .i64 iz.head, .ps 2 (List.map Tm.aO iz.args)]:=dh _
 refine zi [2] (F0 gY) ?_ ⟨trivial,⟨dH _,trivial⟩,trivial⟩ (by rw [zg];simp [fZ,j0,among,e7]) ?_
 ·simp only [go_sem,rH,rI,r0]
 rw [zg]
 simp only [go_sem,fZ,j0,rH,rI,a_,if_false,fJ]
 refine aK.go 1000 ?_
 simp only [go_sem]
 refine aK.draw [⟨none,[],[4,5,6]⟩,⟨none,[],[5,6]⟩,⟨some 4,[4],[5,6]⟩,⟨none,[],[4,5,6]⟩,⟨none,[],[4,6]⟩,⟨some 5,[5],[4,6]⟩,⟨none,[5],[4,6]⟩,⟨none,[],[4,6]⟩,⟨none,[3,4],[6]⟩,⟨none,[],[6]⟩,⟨none,[],[6]⟩,⟨none,[],[6]⟩,⟨some 6,[6],[3,4,5]⟩,⟨none,[6],[]⟩] 4 7 mixed rfl rfl (by decide) ?_
 simp only [go_sem,dC]
 refine n5 Lp (cJ _ _ _) trivial ?_
 simp only [go_sem]
 refine zi [5] (F0 iz) ?_ ⟨trivial,⟨dH _,trivial⟩,trivial⟩ (by rw [zg];simp [fZ,j0,among,e7]) ?_
 ·simp only [go_sem,rH,rI,r1]
 rw [zg]
 simp only [go_sem,fZ,j0,rH,rI,a_,if_false,fJ]
 refine n5 (Eg (iA iz)) (cJ _ _ _) ⟨dH _,trivial⟩ ?_
 simp only [go_sem]
 have hN:=Ja sg nY (iB (iA iz)) (Yxo _ (by decide) TD)
 rw [Yrp] at hN
 have si:(⟨iB iz,[0],0, -1⟩:Si).aO = .agg [.ps 5 (lits (iB iz)), .ps 1 (ints [0]), .int .i64 0, .int .i64 (-1)]:=rfl
 simp only [si] at hN
 have V3:bP (.dA [.agg [.ps 5 (lits (iB iz)), .ps 1 (ints [0]), .int .i64 0, .int .i64 (-1)], .int .i64 0])=false:=rfl
 have eU:da nY=[.ps 5 [.agg [.bool false, .int .i64 (iA gY).head, .ps 2 ((iA gY).args.map Tm.aO), .int .i64 gY.head, .ps 2 (gY.args.map Tm.aO)]]]:=rfl
 refine zi [3,4] hN ?_ ⟨dK _,fy _,cz _,trivial⟩ (by rw [V3];simp [fZ,j0,among,e7]) ?_
 ·simp only [go_sem,rH,rI,eU]
 rw [V3]
 simp only [go_sem,fZ,j0,rH,rI,a_,if_false,fJ]
 refine aK.go 1000 ?_
 simp only [go_sem]
 refine aK.draw [⟨none,[],[7,9]⟩,⟨none,[],[7,9]⟩,⟨none,[],[7,9]⟩,⟨none,[],[9]⟩,⟨some 7,[7],[9]⟩,⟨none,[7],[9]⟩,⟨none,[],[9]⟩,⟨some 8,[8],[9]⟩,⟨none,[],[7,8,9]⟩,⟨none,[],[7,8]⟩,⟨some 9,[9],[7,8]⟩,⟨none,[9],[8]⟩,⟨none,[],[8]⟩,⟨none,[3,8],[]⟩] 7 10 mixed rfl rfl (by decide) ?_
 simp only [go_sem,dC]
 refine n5 Lp (cJ _ _ _) trivial ?_
 simp only [go_sem]
 refine zi [7] (F0 gY) ?_ ⟨trivial,⟨dH _,trivial⟩,trivial⟩ (by rw [zg];simp [fZ,j0,among,e7]) ?_
 ·simp only [go_sem,rH,rI,r0]
 rw [zg]
 simp only [go_sem,fZ,j0,rH,rI,a_,if_false,fJ]
 refine n5 (Eg (iA gY)) (cJ _ _ _) ⟨dH _,trivial⟩ ?_
 simp only [go_sem]
 refine zi [9] (F0 iz) ?_ ⟨trivial,⟨dH _,trivial⟩,trivial⟩ (by rw [zg];simp [fZ,j0,among,e7]) ?_
 ·simp only [go_sem,rH,rI,r1]
 rw [zg]
 simp only [go_sem,fZ,j0,rH,rI,a_,if_false,fJ]
 refine n5 (Eg (iA iz)) (cJ _ _ _) ⟨dH _,trivial⟩ ?_
 simp only [go_sem]
 have hN2:aJ Tryz.prog 11 [.ps 4 (syms sg), .ps 1 (da (nY++[iB (iA gY)])), .ps 5 (lits (iB (iA iz)))] (.dA [.bool false, .int .i64 0]):=by
  have:=RA sg (nY++[iB (iA gY)]) (iB (iA iz)) (UT _ (by decide) FV.2.2.1)
  rw [Ysy] at this
  exact this
 have Jp:∀ b:Bool,bP (.dA [.bool b, .int .i64 0])=true:=fun _=>rfl
 have eU2:da (nY++[iB (iA gY)])=[.ps 5 [.agg [.bool false, .int .i64 (iA gY).head, .ps 2 ((iA gY).args.map Tm.aO), .int .i64 gY.head, .ps 2 (gY.args.map Tm.aO)]], .ps 5 (lits (iB (iA gY)))]:=rfl
 refine zi [3,8] hN2 ?_ ⟨dK _,fy _,cz _,trivial⟩ (by rw [Jp,if_pos rfl];exact zW _ _ _) ?_
 ·simp only [go_sem,rH,rI,eU2]
 rw [Jp,if_pos rfl,Ff]
 simp only [go_sem]
 refine aK.go 1000 ?_
 simp only [go_sem]
 refine aK.draw [⟨none,[],[11]⟩,⟨none,[],[11]⟩,⟨none,[],[11]⟩,⟨none,[],[11]⟩,⟨none,[],[11]⟩,⟨some 10,[10],[11]⟩,⟨none,[],[10,11]⟩,⟨none,[],[10]⟩,⟨some 11,[11],[10]⟩,⟨none,[11],[10]⟩,⟨none,[],[10]⟩,⟨none,[3,10],[]⟩] 10 12 mixed rfl rfl (by decide) ?_
 simp only [go_sem,dC]
 refine n5 Lp (cJ _ _ _) trivial ?_
 simp only [go_sem]
 refine n5 (Eg gY) (by rw [r0];exact cJ _ _ _) ⟨dH _,trivial⟩ ?_
 simp only [go_sem]
 refine zi [11] (F0 iz) ?_ ⟨trivial,⟨dH _,trivial⟩,trivial⟩ (by rw [zg];simp [fZ,j0,among,e7]) ?_
 ·simp only [go_sem,rH,rI,r1]
 rw [zg]
 simp only [go_sem,fZ,j0,rH,rI,a_,if_false,fJ]
 refine n5 (Eg (iA iz)) (cJ _ _ _) ⟨dH _,trivial⟩ ?_
 simp only [go_sem]
 have hN3:aJ Tryz.prog 11 [.ps 4 (syms sg), .ps 1 (da (nY++[iB gY])), .ps 5 (lits (iB (iA iz)))] (.dA [.bool true, .int .i64 0]):=by
  have:=RA sg (nY++[iB gY]) (iB (iA iz)) (UT _ (by decide) FV.1)
  rw [Ysa] at this
  exact this
 have eU3:da (nY++[iB gY])=[.ps 5 [.agg [.bool false, .int .i64 (iA gY).head, .ps 2 ((iA gY).args.map Tm.aO), .int .i64 gY.head, .ps 2 (gY.args.map Tm.aO)]], .ps 5 (lits (iB gY))]:=rfl
 refine zi [3,10] hN3 ?_ ⟨dK _,fy _,cz _,trivial⟩ (by rw [Jp,if_pos rfl];exact zW _ _ _) ?_
 ·simp only [go_sem,rH,rI,eU3]
 rw [Jp,if_pos rfl,Ff]
 simp only [go_sem]
 refine aK.go 1000 ?_
 simp only [go_sem]
 have fH:A5 (iB iz):=fun l hl=>by
  rw [aM.1 hl];exact ⟨by decide,by decide⟩
 have hE:=RI (iB iz) (iB iz) fH fH (by decide)
 rw [(IL _ _).2 rfl] at hE
 have hI:=Ypy [0] [0] (by decide)
 rw [decide_eq_true rfl] at hI
 refine aK.draw [.no, .no, .no, .no, .no, .no, .no, .no, .no, .no, .no,⟨none,[],[12]⟩,⟨none,[],[12]⟩,⟨some 12,[12],[]⟩] 12 13 mixed rfl rfl (by decide) ?_
 simp only [go_sem,dC]
 refine n5 (Eg iz) (by rw [r1];exact cJ _ _ _) ⟨dH _,trivial⟩ ?_
 simp only [go_sem]
 refine n5 hE (cJ _ _ _) ⟨cz _,cz _,trivial⟩ ?_
 simp only [go_sem]
 have V4:bP (.bool true)=true:=rfl
 refine zi [12] hI ?_ ⟨dB _,dB _,trivial⟩ (by rw [V4,if_pos rfl];exact zW _ _ _) ?_
 ·have e0:ints [0]=[.int .i64 0]:=rfl
  simp only [go_sem,rH,rI,e0]
 rw [V4,if_pos rfl,Ff]
 simp only [go_sem,beq_self_eq_true]
 refine aK.go 1000 ?_
 simp only [go_sem]
theorem Yl3 {g:List Sy} {es:List (List Li)} {c:List Li} (h:sv g es c=true):o8 es=true∧pK c=true∧n9 c=true∧(∀ r∈es,n9 r=true∧pK r=true):=by
 unfold sv at h
 split at h
 ·cases h
 ·rename_i hb
  simp only [aC] at h
  obtain ⟨⟨⟨h1,h2⟩,h3⟩,h4⟩:=h
  refine ⟨h2,h3,h4,fun r hr=>?_⟩
  have hn:¬ pE r=true:=fun k=>hb ⟨(Mk h2).1,cT.2 ⟨r,hr,k⟩⟩
  unfold pE at hn
  simpa using hn
theorem Qn {g:List Sy} {d:List Li} (hd:jm g d):jm g (iW d):=by
 obtain ⟨h1,h2,h3⟩:=Qz hd
 rw [h3];exact QE h1 hd h2
end Go.Proofs
namespace Go.Proofs
open Go Go.c8
section
variable {r:Int→Int} {p:Int→Prop}
theorem O8 (hr:fp r p) {S:List Int} (hS:∀ v∈S,p v) {v:Int} (hv:p v):r v∈S.map r↔v∈S:=by
 rw [bZ]
 exact ⟨fun ⟨w,hw,e⟩=>by rw [← hr.inj w v (hS w hw) hv e];exact hw,fun h=>⟨v,h,rfl⟩⟩
theorem OZ (hr:fp r p) {v:Int} (hv:p v):∀ {S:List Int},(∀ w∈S,p w)→(S.map r).idxOf (r v)=S.idxOf v
 | [],_=>rfl
 | w :: S,hS=>by
  rw [aB,List.idxOf_cons,List.idxOf_cons,OZ hr hv fun x hx=>hS x (by simp [hx])]
  have:(r w==r v)=(w==v):=by
   rw [dD]
   simp only [beq_iff_eq]
   exact ⟨fun e=>hr.inj w v (hS w (by simp)) hv e,fun e=>by rw [e]⟩
  rw [this]
theorem Yjg (hr:fp r p) {S:List Int} (hS:∀ v∈S,p v) {v:Int} (hv:p v):j6 (S.map r) (r v)=(j6 S v).map r:=by
 unfold j6
 by_cases h:v∈S
 ·rw [if_pos h,if_pos ((O8 hr hS hv).2 h)]
 ·rw [if_neg h,if_neg (fun k=>h ((O8 hr hS hv).1 k))];simp
theorem Yyj {S:List Int} (hS:∀ v∈S,p v) {v:Int} (hv:p v):∀ w∈j6 S v,p w:=fun w hw=>by
 rcases (LQ S v w).1 hw with h | rfl
 ·exact hS w h
 ·exact hv
mutual
theorem Ygn (hr:fp r p):∀ (t:Tm) (S:List Int),t.good=true→t.dj p→(∀ v∈S,p v)→(t.rn r).num (S.map r)=((t.num S).1,(t.num S).2.map r)
 | .mk h ts,S,hg,hv,hS=>by
  by_cases ff:h<0
  ·have hp:=Co hv ff
   simp only [Tm.head] at hp
   have nq:=(hr.pos _ hp).1
   rw [Ao (t:=.mk h ts) ff,Tm.num,if_pos ff]
   unfold vr
   rw [Tm.num,if_pos (by simp only [Tm.head];omega),show (Tm.mk h ts).head=h from rfl,show -1 - (-1 - r (-1 - h))=r (-1 - h) by omega,Yjg hr hS hp,OZ hr hp (Yyj hS hp)]
  ·have ih:=Ky hr ts S (qw hg) (zY hv) hS
   rw [zp (t:=.mk h ts) ff]
   show (Tm.mk h (ts.map (Tm.rn r))).num (S.map r) = _
   rw [Tm.num,if_neg ff,Tm.num,if_neg ff,ih]
theorem Ky (hr:fp r p):∀ (ts:List Tm) (S:List Int),(∀ t∈ts,t.good=true)→(∀ t∈ts,t.dj p)→(∀ v∈S,p v)→Tm.fx (ts.map (Tm.rn r)) (S.map r)=((Tm.fx ts S).1,(Tm.fx ts S).2.map r)
 | [],S,_,_,_=>by rw [aP,Tm.fx,Tm.fx]
 | t :: ts,S,hg,hv,hS=>by
  have h1:=Ygn hr t S (hg t (by simp)) (hv t (by simp)) hS
  have h2:=Ky hr ts (t.num S).2 (fun x hx=>hg x (by simp [hx])) (fun x hx=>hv x (by simp [hx])) (P3 t S hS (hv t (by simp)))
  rw [aB,Tm.fx,Tm.fx,h1]
  simp only
  rw [h2]
end
theorem VS:∀ d:List Li,cP (iP r d)=(cP d).map (Tm.rn r)
 | []=>rfl
 | l :: d=>by
  rw [show cP (l :: d)=l.l :: l.r :: cP d from rfl,aB,aB,← VS d];rfl
theorem Qt:∀ (d:List Li) (ts:List Tm),vd (iP r d) ts=vd d ts
 | [],ts=>by cases ts<;>rfl
 | l :: d,[]=>rfl
 | l :: d,[a]=>rfl
 | l :: d,a :: b :: ts=>by
  show _ :: vd (iP r d) ts = _ :: vd d ts
  rw [Qt d ts];rfl
theorem Ytc (hr:fp r p) {g:List Sy} {d:List Li} (hd:jm g d) (hp:sQ p d):iW (iP r d)=iW d:=by
 unfold iW
 have h:=Ky hr (cP d) [] (RQ hd) (fun t ht=>by
  unfold cP at ht
  rw [lQ] at ht
  obtain ⟨l,hl,ht⟩:=ht
  simp only [aR,dR,or_false] at ht
  rcases ht with rfl | rfl
  ·exact (hp l hl).1
  ·exact (hp l hl).2) (fun v hv=>by cases hv)
 rw [aP] at h
 rw [VS,h,Qt]
theorem PE (hr:fp r p):∀ {d:List Li},(∀ l∈d,kj p l)→mS d→mS (iP r d)
 | [],_,_=>trivial
 | l :: d,hd,h=>by
  have hl:=hd l (by simp)
  refine ⟨?_,fun m hm=>?_,PE hr (fun x hx=>hd x (by simp [hx])) h.2.2⟩
  ·rw [show (Li.rn r l).neg=l.neg from rfl,Pr hr hl];exact h.1
  ·obtain ⟨x,hx,rfl⟩:=bZ.1 hm
   rw [Vv hr x l (hd x (by simp [hx])) hl]
   exact h.2.1 x hx
theorem HE (hr:fp r p) {x y:Tm} (hx:qE p x) (hy:qE p y):decide (x.rn r=y.rn r)=decide (x=y):=decide_eq_decide.2 ⟨fun e=>Ez hr _ _ hx.1 hy.1 hx.2 hy.2 e,fun e=>by rw [e]⟩
theorem Ywk (hr:fp r p) {a b:Li} (ha:kj p a) (hb:kj p b):qq (a.rn r) (b.rn r)=qq a b:=by
 unfold qq nk
 rw [show (a.rn r).neg=a.neg from rfl,show (b.rn r).neg=b.neg from rfl,show (a.rn r).l=a.l.rn r from rfl,show (a.rn r).r=a.r.rn r from rfl,show (b.rn r).l=b.l.rn r from rfl,show (b.rn r).r=b.r.rn r from rfl,
  HE hr ha.1 hb.1,HE hr ha.2 hb.2,HE hr ha.1 hb.2,HE hr ha.2 hb.1]
theorem UN (hr:fp r p):∀ (c b:List Li),(∀ l∈c,kj p l)→(∀ l∈b,kj p l)→mQ (iP r b) (iP r c)=mQ b c
 | [],b,_,_=>by unfold iP;rw [aP,mQ,mQ]
 | l :: c,b,hc,hb=>by
  have hl:=hc l (by simp)
  have ih:=UN hr c (b++[l]) (fun x hx=>hc x (by simp [hx])) (fun x hx=>by
   rcases aW.1 hx with hx | hx
   ·exact hb x hx
   ·rw [aM.1 hx];exact hl)
  have e1:iP r (b++[l])=iP r b++[l.rn r]:=by unfold iP;simp
  have e2:((iP r b).any fun m=>qq (l.rn r) m)=b.any fun m=>qq l m:=by
   unfold iP
   rw [List.any_map]
   exact Ku fun x hx=>Ywk hr hl (hb x hx)
  rw [show iP r (l :: c)=l.rn r :: iP r c from rfl,mQ,mQ,e2,Pr hr hl,show (l.rn r).neg=l.neg from rfl,← e1,ih]
theorem Yra (hr:fp r p) {c:List Li} (hc:∀ l∈c,kj p l):jC (iP r c)=jC c:=UN hr c [] hc (fun l hl=>by cases hl)
end
theorem Ykl {g:List Sy} {es:List (List Li)} {c:List Li} (h:qC es c) (hw:cF g (c :: es)=0):∀ u∈cQ es,dP u=false∧gM g u.l∧gM g u.r:=fun u hu=>⟨Rm hu,Zip (g:=g) (fun x hx=>(CD h hw x hx).1) (fun x hx=>(CD h hw x hx).2) hu⟩
theorem P0 {g:List Sy} {c d:List Li} (hc:jm g c) (hd:jm g d):mr c d=match qP c d with | some k=>((k:Int),true,0) | none=>(0,false,0):=by unfold mr;rw [if_neg (by simp [SZ hc hd])];rfl
theorem Sv {d d':List Li}:∀ {es:List (List Li)} {k:Nat},(∀ c∈es,mr c d=mr c d')→kX k es d=kX k es d'
 | [],_,_=>rfl
 | c :: es,k,h=>by
  rw [kX,kX,h c (by simp),Sv fun x hx=>h x (by simp [hx])]
theorem Rz {d d':List Li}:∀ {es:List (List Li)} {k:Nat},(∀ c∈es,oq c d=oq c d')→jy k es d=jy k es d'
 | [],_,_=>rfl
 | c :: es,k,h=>by
  rw [jy,jy,h c (by simp),Rz fun x hx=>h x (by simp [hx])]
theorem X4 {g:List Sy} {es:List (List Li)} {c d:List Li} (h:qC es c) (hw:cF g (c :: es)=0) (hd:jm g d) (ht:mS d) :
  qC es (iW d)∧cF g (iW d :: es)=0∧iW (iW d)=iW d∧iq (iW d)=iW d∧jC (iW d)=jC d∧(calm g (cQ es) d→cB g es (iW d)=(iW d,[],0))∧kX 0 es (iW d)=kX 0 es d∧jy 0 es (iW d)=jy 0 es d:=by
 obtain ⟨h1,h2,h3⟩:=Qz hd
 have ju:=Cv hd h2
 have sA:=Qn hd
 obtain ⟨i1,i2⟩:=I8 h hw sA
 refine ⟨i1,i2,?_,?_,?_,fun hc=>?_,?_,?_⟩
 ·conv=>lhs;rw [h3]
  exact Ytc h1 hd h2
 ·rw [h3];exact Yt5 (PE h1 ju ht)
 ·rw [h3];exact Yra h1 ju
 ·refine Ypf i2 ?_
  rw [K5] at hc ⊢
  rw [h3,Yk2 h1 hd h2 (Ykl h hw)]
  exact hc
 ·refine Sv fun x hx=>?_
  have hx:=CD h hw x hx
  rw [P0 hx sA,P0 hx hd,h3,Yvq h1 ju]
 ·refine Rz fun x hx=>?_
  have hx:=CD h hw x hx
  rw [UH hx sA,UH hx hd,h3,Yu2 h1 ju]
theorem Ym5 {g:List Sy} {es:List (List Li)} {c:List Li} (hw:cF g (c :: es)=0) (h1:(dE (cS g es) (wg c)).1≠1):ix g es c=o7 (dE (cS g es) (wg c)).2:=by
 unfold ix
 rw [if_neg (by simp [hw]),show (70:Nat)=69+1 from rfl,vw,if_neg h1]
theorem ZF {g:List Sy} {es:List (List Li)} {c:List Li} (h:qC es c) (h0:(ix g es c).2=0):qC es (ix g es c).1.d∧jm g (ix g es c).1.d∧ix g es (ix g es c).1.d=(⟨(ix g es c).1.d,[],(ix g es c).1.gone,(ix g es c).1.sj⟩,0):=by
 rcases RS (g:=g) h with ⟨h1,h2⟩ | ⟨hw,n,X,hI,hX⟩
 ·rw [h2] at h0;exact absurd h0 h1
 obtain ⟨a1,a2,a3,a4,a5,a6,a7,a8⟩:=X4 h hw hI.rt hI.tidy
 have sA:=Qn hI.rt
 obtain ⟨_,WV⟩:=I8 h hw hI.rt
 have hN:=U7 sA
 rw [a3] at hN
 have hd':(wg (iW X.d)).d=iW X.d:=a4
 have p9:=Ym5 (c:=iW X.d) a2
 have hsc:=H5 g es (wg (iW X.d))
 rw [hd',a5,a7,a8] at hsc
 have hend:∀ gn wh:Int,o7 ⟨iW X.d,[],gn,wh,0⟩=(⟨iW X.d,[],gn,wh⟩,0):=fun gn wh=>by
  unfold o7
  simp only [hN];rfl
 have JK:wg (iW X.d)=⟨iW X.d,[],0, -1,0⟩:=by unfold wg;rw [a4]
 rw [JK] at hsc p9
 rcases hX with ⟨q1,e⟩ | ⟨q1,q2,e⟩ | ⟨q1,q2,q3,q4,k,q5,e⟩ | ⟨q1,q2,q3,q4,q5,e⟩
 ·rw [e]
  refine ⟨a1,sA,?_⟩
  simp only
  rcases hsc with ⟨_,se⟩ | ⟨s1,_⟩ | ⟨s1,_⟩ | ⟨s1,_⟩ | ⟨s1,_⟩ | ⟨s1,_⟩
  ·rw [p9 (by rw [se];simp),se];exact hend 1 (-1)
  all_goals rw [q1] at s1;cases s1
 ·rw [e] at h0;exact absurd h0 q2
 ·rw [e]
  refine ⟨a1,sA,?_⟩
  simp only
  have hc:=a6 ((Fq WV).2 ⟨q2,q3⟩)
  rw [hc,q4,q5] at hsc
  rcases hsc with ⟨s1,_⟩ | ⟨_,s2,_⟩ | ⟨_,_,s3,_⟩ | ⟨_,_,_,x,s4,_⟩ | ⟨_,_,_,_,k',s5,se⟩ | ⟨_,_,_,_,s5,_⟩
  ·rw [q1] at s1;cases s1
  ·exact absurd rfl s2
  ·exact absurd rfl s3
  ·cases s4
  ·cases s5
   rw [p9 (by rw [se];simp),se];exact hend 2 _
  ·cases s5
 ·rw [e]
  refine ⟨a1,sA,?_⟩
  simp only
  have hc:=a6 ((Fq WV).2 ⟨q2,q3⟩)
  rw [hc,q4,q5] at hsc
  rcases hsc with ⟨s1,_⟩ | ⟨_,s2,_⟩ | ⟨_,_,s3,_⟩ | ⟨_,_,_,x,s4,_⟩ | ⟨_,_,_,_,k',s5,se⟩ | ⟨_,_,_,_,s5,se⟩
  ·rw [q1] at s1;cases s1
  ·exact absurd rfl s2
  ·exact absurd rfl s3
  ·cases s4
  ·cases s5
  ·rw [p9 (by rw [se];simp),se];exact hend 0 (-1)
end Go.Proofs
namespace Go.Proofs
open Go Go.c8
attribute [local go_sem] Nat.reduceAdd Nat.reduceSub Nat.reduceMul Nat.reduceLeDiff Nat.reduceEqDiff Nat.reduceBEq Nat.reduceLT Nat.le_refl Int.natCast_zero Nat.sub_zero List.length_map Int.toNat_natCast Int.natCast_one Int.reduceEq Int.reduceLT Int.reduceLE Int.reduceNe Int.sub_zero Int.zero_add Int.toNat_one
theorem Yr7 {g:List Sy} {es:List (List Li)} {c:List Li} (h:qC es c) (h0:(ix g es c).2≠0):(ix g es c).1=⟨[],[],0,0⟩:=by
 rcases RS (g:=g) h with ⟨h1,h2⟩ | ⟨hw,n,X,hI,⟨q1,e⟩ | ⟨q1,q2,e⟩ | ⟨q1,q2,q3,q4,k,q5,e⟩ | ⟨q1,q2,q3,q4,q5,e⟩⟩
 ·rw [h2]
 ·rw [e] at h0;exact absurd rfl h0
 ·rw [e]
 ·rw [e] at h0;exact absurd rfl h0
 ·rw [e] at h0;exact absurd rfl h0
set_option maxHeartbeats 1000000 in
theorem Ziz (g:List Sy) (es:List (List Li)) (c:List Li) (f1:∀ x∈es,pM x) (f2:pM c) (gU:c.length≤2600000000000) {W:World} {vs:Array Value}
  (h2:vs.size=([.ps 4 (syms g), .ps 1 (da es), .ps 5 (lits c)]:List ae).length)
  (h3:∀ k,k<([.ps 4 (syms g), .ps 1 (da es), .ps 5 (lits c)]:List ae).length→bS W rU sH (vs.getD k undef) (([.ps 4 (syms g), .ps 1 (da es), .ps 5 (lits c)]:List ae).getD k .undef)) :
  Calls Tryz.prog 5 vs W fun e w'=>e = .returned (.bool true)∧RowKit.Below W.heap.size W w':=by
 refine Zzu (args:=[.ps 4 (syms g), .ps 1 (da es), .ps 5 (lits c)]) (rs:=[.tmp 6]) (m:=73) 1000 Tryz.func5 rfl rfl rfl rfl ?_ (fun x hx=>by cases hx) h2 h3
 clear h2 h3
 simp only [go_sem]
 refine aq.bV [] (Ynp g es c gU) (cJ _ _ _) (by simp [go_sem,dK,fy,cz]) ?_;simp only [bP,bY,bX,if_true];refine aK.go 1000 ?_
 cases Nd:sv g es c with
 | false=>simp only [go_sem]
 | true =>
 obtain ⟨he,hc,anl,hr⟩:=Yl3 Nd
 have fE:=Yws he hc f1 f2
 have hle:=(Mk he).1
 have hF:=Ja g es c fE
 have pa:=Yr7 (g:=g) fE
 have BI:=ZF (g:=g) fE
 have CX:=Ja g es (ix g es c).1.d
 generalize ix g es c=z at *
 obtain ⟨⟨d,u,gn,wh⟩,e⟩:=z
 simp only at pa BI CX
 by_cases h0:e=0
 case neg =>
  have hb:=pa h0
  injection hb with b1 b2 b3 b4
  subst b1 b2 b3 b4
  unfold Si.aO at hF
  simp only [go_sem]
  refine aq.bV [] hF (cJ _ _ _) ⟨dK _,fy _,cz _,trivial⟩ ?_
  rw [jj];simp only [ite_self]
  refine aK.go 1000 ?_
  simp only [go_sem,h0]
  refine aq.bV [] (Sb) (cJ _ _ _) (by simp [go_sem, ]) ?_;simp only [bP,bY,bX,if_true];refine aK.go 1000 ?_
  simp only [go_sem,h0]
 subst h0
 obtain ⟨i1,i2,i3⟩:=BI rfl
 have CX:=CX i1
 rw [i3] at CX
 have fH:=Yuc i2
 have hE:=RI d d fH.1 fH.1 (by have:=fH.2;omega)
 rw [(IL _ _).2 rfl] at hE
 unfold Si.aO at hF CX
 simp only at hF CX
 simp only [go_sem]
 refine aq.bV [] hF (cJ _ _ _) ⟨dK _,fy _,cz _,trivial⟩ ?_
 rw [jj];simp only [ite_self]
 refine aK.go 1000 ?_
 simp only [go_sem]
 refine aq.bV [] CX (cJ _ _ _) ⟨dK _,fy _,cz _,trivial⟩ ?_
 rw [jj];simp only [ite_self]
 refine aK.go 1000 ?_
 simp only [go_sem]
 refine aq.bV [] (Sb) (cJ _ _ _) (by simp [go_sem, ]) ?_;simp only [bP,bY,bX,if_true];refine aK.go 1000 ?_
 simp only [go_sem,lF,aS]
 refine aq.bV [] (hE) (cJ _ _ _) (by simp [go_sem,cz]) ?_;simp only [bP,bY,bX,if_true];refine aK.go 1000 ?_
 simp only [go_sem,decide_true,beq_self_eq_true]
end Go.Proofs
