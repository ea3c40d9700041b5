/- Part 47 of my own framework and of the walks of functions: Da, Db, Dc, Bc, Dd, De, Ea, Eb, Ec. -/
import Derived.Test.YtfjbdamcmiglgaaGreatOwn46
set_option linter.unusedVariables false
set_option linter.unusedSectionVars false
set_option linter.unusedSimpArgs false
namespace Go.Proofs
open Go Go.c8
theorem Zta {es:List (List Li)} {u:Un} (h:u∈cU es):fE u=false:=by
 unfold cU at h
 have:=(List.mem_filter.1 h).2
 simpa using this
theorem X_ {g:List Sy} {us:List Un} {c:List Li} (h0:(fb g us c).2.2.2=0):(fb g us c).1.length=c.length:=by
 unfold fb lu at h0 ⊢
 rcases EO (TT g c) us (cK c 0) with ⟨f1,_⟩ | ⟨k,hk,x,f1,f2,_⟩
 ·rw [f1]
 ·rw [f1] at h0 ⊢
  simp only at h0 ⊢
  split at h0
  ·split
   ·unfold kO
    split<;>simp
   ·rename_i h1 h2;exact absurd h1 h2
  ·rename_i h1
   split
   ·rename_i h2;exact absurd h2 h1
   ·exact absurd h0 (by assumption)
theorem SM {g:List Sy} {us:List Un}:∀ (n:Nat) (c:List Li) (u:List Int),(fg (fb g us) n c u).2.2=0→(fg (fb g us) n c u).1.length=c.length
 | 0,_,_,h=>by rw [fg] at h;exact absurd h (by decide)
 | n+1,c,u,h=>by
  rw [fg] at h ⊢
  split
  ·rename_i h1;rw [if_pos h1] at h;exact absurd h h1
  ·rename_i h1
   rw [if_neg h1] at h
   split
   ·rfl
   ·rename_i h2
    rw [if_neg h2] at h
    split
    ·rename_i h3;rw [if_pos h3] at h;exact absurd h (by simp)
    ·rename_i h3
     rw [if_neg h3] at h
     rw [SM n _ _ h,X_ (by simpa using h1)]
theorem Yp {g:List Sy} {es:List (List Li)} {c:List Li} (h:(cz g es c).2.2=0):(cz g es c).1.length=c.length:=by
 unfold cz gq at h ⊢
 split
 ·rename_i h1;rw [if_pos h1] at h;exact absurd h h1
 ·rename_i h1
  rw [if_neg h1] at h
  exact SM _ _ _ h
theorem QM (g:List Sy) (es:List (List Li)) (c:List Li):(cz g es c).2.1.length≤200:=by
 unfold cz gq
 split
 ·exact av _
 ·exact S7 _ _ _ _ (av _)
theorem Qw {g:List Sy} {c:List Li} {es:List (List Li)} (hc:bd g c=0):cM g (c :: es)=cM g es:=by
 rw [cM,if_neg (fun k=>k hc)]
theorem N5 {g:List Sy} {es:List (List Li)} {c d:List Li} (h:sG es c) (hw:cM g (c :: es)=0) (hd:j4 g d):sG es d∧cM g (d :: es)=0:=by
 have h1:=DH hw c (by simp)
 refine ⟨⟨h.1,fun x hx=>?_⟩,by rw [Qw hd.1,← Qw h1];exact hw⟩
 rcases aQ.1 hx with rfl | hx
 ·refine ⟨fun i hi=>?_,hd.2⟩
  obtain ⟨a1,a2⟩:=uE hd (aE hi)
  have b1:=(qt a1).2
  have b2:=(qt a2).2
  exact ⟨by omega,by omega⟩
 ·exact h.2 x (by simp [hx])
theorem zV {g:List Sy} {d:List Li} (hd:j4 g d):kN d:=by
 obtain ⟨_,h2,_⟩:=yV hd.1
 refine ⟨fun l hl=>?_,by omega⟩
 obtain ⟨a1,a2⟩:=uE hd hl
 have b1:=qt a1
 have b2:=qt a2
 exact ⟨⟨b1.1,by have:=b1.2;omega⟩,b2.1,by have:=b2.2;omega⟩
theorem T5 {m:Nat}:∀ {c:List Li},(∀ l∈c,l.l.size≤m∧l.r.size≤m)→Tm.bF (cR c)≤c.length*(2*m)
 | [],_=>by simp [cR,Tm.bF]
 | l :: c,h=>by
  obtain ⟨a1,a2⟩:=h l (by simp)
  have ih:=T5 (c:=c) fun x hx=>h x (by simp [hx])
  rw [show cR (l :: c)=l.l :: l.r :: cR c from rfl,Tm.bF,Tm.bF,ax,Nat.succ_mul]
  omega
theorem Ym0 {g:List Sy} {d:List Li} (hd:j4 g d):Tm.bF (cR d)<99999999:=by
 obtain ⟨_,h2,_⟩:=yV hd.1
 have h:=T5 (m:=400) (c:=d) fun l hl=>by
  obtain ⟨a1,a2⟩:=uE hd hl
  exact ⟨(qt a1).2,(qt a2).2⟩
 have:d.length*(2*400)≤32*(2*400):=aX _ h2
 omega
theorem Cj {g:List Sy} {es:List (List Li)} {c:List Li} (h:sG es c) (hw:cM g (c :: es)=0):∀ x∈es,j4 g x:=fun x hx=>⟨DH hw x (by simp [hx]),(h.2 x (by simp [hx])).2⟩
noncomputable def GZ (g:List Sy) (es:List (List Li)) (W:Wk):Nat:=2*W.d.length + @ite _ (calm g (cU es) W.d) (Classical.propDecidable _) 0 1
structure IW (g:List Sy) (es:List (List Li)) (n:Nat) (W:Wk):Prop where
 rt:j4 g W.d
 e:W.e=0
 gone:W.gone=0
 pV:W.pV = -1
 tidy:pc W.d
 nodup:W.u.Nodup
 rows:∀ k∈W.u,0≤k∧k<es.length
 len:W.u.length+201*n≤201*70
 mu:GZ g es W<n
theorem Yof (g:List Sy) (es:List (List Li)) (W:Wk):dD (cS g es) W=if (gP W).1≠0 then gP W else if (jC g es W).1≠0 then jC g es W else if (lR es W).1≠0 then lR es W else if (ji es W).1≠0 then ji es W else (0,W):=by
 simp only [cS,dD,ite_not,ne_eq]
theorem JT (g:List Sy) (es:List (List Li)) (W:Wk) :
  (kS W.d=true∧dD (cS g es) W=(2,{ W with gone:=1 })) ∨
  (kS W.d=false∧(cz g es W.d).2.2≠0∧dD (cS g es) W=(2,{ W with e:=(cz g es W.d).2.2 })) ∨
  (kS W.d=false∧(cz g es W.d).2.2=0∧(cz g es W.d).2.1≠[]∧dD (cS g es) W=(1,iu (cz g es W.d).2.1 { W with d:=iE (cz g es W.d).1 })) ∨
  (kS W.d=false∧(cz g es W.d).2.2=0∧(cz g es W.d).2.1=[]∧∃ x,mX 0 es W.d=some x∧dD (cS g es) W=(1,kc (x.1:Int) { W with d:=W.d.eraseIdx x.2 })) ∨
  (kS W.d=false∧(cz g es W.d).2.2=0∧(cz g es W.d).2.1=[]∧mX 0 es W.d=none∧∃ k,jA 0 es W.d=some k∧dD (cS g es) W=(2,{ W with gone:=2,pV:=(k:Int) })) ∨
  (kS W.d=false∧(cz g es W.d).2.2=0∧(cz g es W.d).2.1=[]∧mX 0 es W.d=none∧jA 0 es W.d=none∧dD (cS g es) W=(0,W)):=by
 rw [Yof]
 cases h1:kS W.d
 ·have e1:gP W=(0,W):=by unfold gP;rw [h1];rfl
  rw [e1,if_neg (fun k=>k rfl)]
  by_cases h2:(cz g es W.d).2.2=0
  ·by_cases h3:(cz g es W.d).2.1=[]
   ·have e2:jC g es W=(0,W):=by unfold jC;rw [if_neg (fun k=>k h2),if_pos h3]
    rw [e2,if_neg (fun k=>k rfl)]
    cases h4:mX 0 es W.d with
    | some x =>
     have e3:lR es W=(1,kc (x.1:Int) { W with d:=W.d.eraseIdx x.2 }):=by unfold lR;rw [h4]
     rw [e3,if_pos (by simp)]
     exact .inr (.inr (.inr (.inl ⟨rfl,h2,h3,x,rfl,rfl⟩)))
    | none =>
     have e3:lR es W=(0,W):=by unfold lR;rw [h4]
     rw [e3,if_neg (fun k=>k rfl)]
     cases h5:jA 0 es W.d with
     | some k =>
      have e4:ji es W=(2,{ W with gone:=2,pV:=(k:Int) }):=by unfold ji;rw [h5]
      rw [e4,if_pos (by simp)]
      exact .inr (.inr (.inr (.inr (.inl ⟨rfl,h2,h3,rfl,k,rfl,rfl⟩))))
     | none =>
      have e4:ji es W=(0,W):=by unfold ji;rw [h5]
      rw [e4,if_neg (fun k=>k rfl)]
      exact .inr (.inr (.inr (.inr (.inr ⟨rfl,h2,h3,rfl,rfl,rfl⟩))))
   ·have e2:jC g es W=(1,iu (cz g es W.d).2.1 { W with d:=iE (cz g es W.d).1 }):=by unfold jC;rw [if_neg (fun k=>k h2),if_neg h3]
    rw [e2,if_pos (by simp)]
    exact .inr (.inr (.inl ⟨rfl,h2,h3,rfl⟩))
  ·have e2:jC g es W=(2,{ W with e:=(cz g es W.d).2.2 }):=by unfold jC;rw [if_pos h2]
   rw [e2,if_pos (by simp)]
   exact .inr (.inl ⟨rfl,h2,rfl⟩)
 ·have e1:gP W=(2,{ W with gone:=1 }):=by unfold gP;rw [h1];rfl
  rw [e1,if_pos (by simp)]
  exact .inl ⟨rfl,rfl⟩
theorem Sv:∀ (es:List (List Li)) (i:Nat), ∀ u∈la es i,(i:Int)≤u.off∧u.off<i+es.length
 | [],_,u,h=>by rw [la] at h;cases h
 | c :: es,i,u,h=>by
  rw [la] at h
  rcases aW.1 h with h | h
  ·unfold vK at h
   split at h
   ·split at h
    ·cases h
    ·simp only [aQ,en,or_false] at h
     rcases h with rfl | rfl<;>simp only [ax]<;>omega
   ·cases h
  ·have:=Sv es (i+1) u h
   simp only [ax];omega
theorem Ztj {es:List (List Li)} {u:Un} (h:u∈cU es) : 0≤u.off∧u.off<es.length:=by
 unfold cU at h
 have:=Sv es 0 u (List.mem_filter.1 h).1
 omega
theorem Xf {g:List Sy} {us:List Un} {c:List Li} (h0:(fb g us c).2.2.2=0) (h1:¬ (fb g us c).2.2.1=false):∃ u∈us,(fb g us c).2.1=u.off:=by
 unfold fb lu at h0 h1 ⊢
 rcases EO (TT g c) us (cK c 0) with ⟨f1,_⟩ | ⟨k,hk,x,f1,f2,_⟩
 ·rw [f1] at h1;exact absurd rfl h1
 ·rw [f1] at h0 h1 ⊢
  simp only at h0 h1 ⊢
  split at h0
  ·rename_i h2
   rw [if_pos h2]
   exact ⟨x.1,(J1 f2).1,rfl⟩
  ·rename_i h2
   exact absurd h0 (by simpa using h2)
theorem Sl {g:List Sy} {us:List Un} {P:Int→Prop} (hP:∀ u∈us,P u.off):∀ (n:Nat) (c:List Li) (l:List Int),(∀ k∈l,P k)→∀ k∈(fg (fb g us) n c l).2.1,P k
 | 0,c,l,_=>by rw [fg];intro k hk;cases hk
 | n+1,c,l,h=>by
  rw [fg]
  split
  ·intro k hk;cases hk
  ·rename_i h1
   split
   ·exact h
   ·rename_i h2
    split
    ·intro k hk;cases hk
    ·refine Sl hP n _ _ fun k hk=>?_
     rcases aW.1 hk with hk | hk
     ·exact h k hk
     ·obtain ⟨u,hu,e⟩:=Xf (by simpa using h1) h2
      rw [aN.1 hk,e]
      exact hP u hu
theorem Xi {g:List Sy} {es:List (List Li)} {c:List Li}:∀ k∈(cz g es c).2.1,0≤k∧k<es.length:=by
 unfold cz gq
 split
 ·intro k hk;cases hk
 ·exact Sl (fun u hu=>Ztj hu) _ _ _ (fun k hk=>by cases hk)
theorem Tk {k j:Int} {W:Wk}:j∈(kc k W).u↔j∈W.u∨j=k:=by
 unfold kc
 split
 ·rename_i h
  exact ⟨.inl,fun h2=>h2.elim id fun e=>e ▸ h⟩
 ·simp
theorem Rg {k:Int} {W:Wk} (h:W.u.Nodup):(kc k W).u.Nodup:=by
 unfold kc
 split
 ·exact h
 ·rename_i hn
  simp only
  rw [gD]
  refine ⟨h,by simp,fun a ha b hb e=>?_⟩
  rw [aN.1 hb] at e
  exact hn (e ▸ ha)
theorem Po (k:Int) (W:Wk):(kc k W).d=W.d∧(kc k W).e=W.e∧(kc k W).gone=W.gone∧(kc k W).pV=W.pV:=by unfold kc;split<;>exact ⟨rfl,rfl,rfl,rfl⟩
theorem Sd {j:Int}:∀ {l:List Int} {W:Wk},j∈(iu l W).u↔j∈W.u∨j∈l
 | [],W=>by simp [iu]
 | k :: l,W=>by rw [iu,Sd,Tk,aQ,or_assoc]
theorem Qv:∀ {l:List Int} {W:Wk},W.u.Nodup→(iu l W).u.Nodup
 | [],W,h=>h
 | k :: l,W,h=>by rw [iu];exact Qv (Rg h)
theorem RP:∀ (l:List Int) (W:Wk),(iu l W).u.length≤W.u.length+l.length
 | [],W=>by simp [iu]
 | k :: l,W=>by
  rw [iu]
  have:=RP l (kc k W)
  have:=KC k W
  simp only [ax];omega
theorem O5:∀ (l:List Int) (W:Wk),(iu l W).d=W.d∧(iu l W).e=W.e∧(iu l W).gone=W.gone∧(iu l W).pV=W.pV
 | [],W=>⟨rfl,rfl,rfl,rfl⟩
 | k :: l,W=>by
  rw [iu]
  obtain ⟨a1,a2,a3,a4⟩:=O5 l (kc k W)
  obtain ⟨b1,b2,b3,b4⟩:=Po k W
  exact ⟨a1.trans b1,a2.trans b2,a3.trans b3,a4.trans b4⟩
theorem SC:∀ {es:List (List Li)} {k:Nat} {d:List Li} {x:Nat×Nat},mX k es d=some x→∃ (i:Nat) (h:i<es.length),x.1=k+i∧(og es[i] d).2.2=0∧(og es[i] d).2.1=true∧(og es[i] d).1=(x.2:Int)∧x.2<d.length
 | [],_,_,_,h=>by rw [mX] at h;cases h
 | c :: es,k,d,x,h=>by
  rw [mX] at h
  split at h
  ·rename_i hc
   obtain ⟨i,e,hi⟩:=N7 hc
   cases h
   refine ⟨0,by simp,rfl,hc.1,hc.2,?_,?_⟩
   ·simp only [eG];rw [e];rfl
   ·simp only;rw [e];exact hi
  ·obtain ⟨i,hi,h1,h2⟩:=SC h
   exact ⟨i+1,by simp;omega,by omega,by simpa using h2⟩
theorem Ri:∀ {es:List (List Li)} {k:Nat} {d:List Li} {x:Nat},jA k es d=some x→∃ (i:Nat) (h:i<es.length),x=k+i∧(jl es[i] d).2=0∧(jl es[i] d).1=true∧∀ j (hj:j<i), ¬ ((jl es[j] d).2=0∧(jl es[j] d).1=true)
 | [],_,_,_,h=>by rw [jA] at h;cases h
 | c :: es,k,d,x,h=>by
  rw [jA] at h
  split at h
  ·rename_i hc
   cases h
   exact ⟨0,by simp,rfl,hc.1,hc.2,fun j hj=>by omega⟩
  ·rename_i hc
   obtain ⟨i,hi,h1,h2,h3,h4⟩:=Ri h
   refine ⟨i+1,by simp;omega,by omega,by simpa using h2,by simpa using h3,fun j hj=>?_⟩
   cases j with
   | zero=>simpa using hc
   | succ j=>simpa using h4 j (by omega)
theorem QW:∀ {es:List (List Li)} {k:Nat} {d:List Li},jA k es d=none→∀ c∈es, ¬ ((jl c d).2=0∧(jl c d).1=true)
 | [],_,_,_,c,hc=>by cases hc
 | a :: es,k,d,h,c,hc=>by
  rw [jA] at h
  split at h
  ·cases h
  ·rename_i ha
   rcases aQ.1 hc with rfl | hc
   ·exact ha
   ·exact QW h c hc
theorem Im {g:List Sy} {es:List (List Li)} {W:Wk} (h:calm g (cU es) W.d):GZ g es W=2*W.d.length:=by unfold GZ;rw [if_pos h];rfl
theorem Py {g:List Sy} {es:List (List Li)} {W:Wk} (h:¬ calm g (cU es) W.d):GZ g es W=2*W.d.length+1:=by unfold GZ;rw [if_neg h]
theorem OO {g:List Sy} {es:List (List Li)} {c:List Li} (h:sG es c) (hw:cM g (c :: es)=0) {n:Nat} {W:Wk} (hI:IW g es (n+1) W) (h1:(dD (cS g es) W).1=1):IW g es n (dD (cS g es) W).2:=by
 obtain ⟨fp,Ey⟩:=N5 h hw hI.rt
 have hu:∀ u∈cU es,fE u=false∧jQ g u.l∧jQ g u.r:=fun u hu=>⟨Zta hu,QY (g:=g) (fun x hx=>(Cj h hw x hx).1) (fun x hx=>(Cj h hw x hx).2) hu⟩
 have Gx:=hI.mu
 have hlen:=hI.len
 rcases JT g es W with ⟨_,e⟩ | ⟨_,_,e⟩ | ⟨_,h2,h3,e⟩ | ⟨_,h2,h3,x,h4,e⟩ | ⟨_,_,_,_,k,_,e⟩ | ⟨_,_,_,_,_,e⟩
 ·rw [e] at h1;exact absurd h1 (by simp)
 ·rw [e] at h1;exact absurd h1 (by simp)
 ·rw [e]
  have Eh:¬ calm g (cU es) W.d:=fun k=>h3 ((Kn Ey).1 k).2
  have hn:=XB fp h2
  have BD:=(KJ fp h2).2.1
  have t_:=N6 BD
  have xU:=Ta (S8 _) BD t_ hu hn
  have hl:=Yp h2
  have Vr:=T0 (cz g es W.d).1
  have yq:=QM g es W.d
  have wT:=RP (cz g es W.d).2.1 { W with d:=iE (cz g es W.d).1 }
  obtain ⟨d1,d2,d3,d4⟩:=O5 (cz g es W.d).2.1 { W with d:=iE (cz g es W.d).1 }
  have oR:=Qv (l:=(cz g es W.d).2.1) (W:={ W with d:=iE (cz g es W.d).1 }) hI.nodup
  have jx:=fun j=>Sd (j:=j) (l:=(cz g es W.d).2.1) (W:={ W with d:=iE (cz g es W.d).1 })
  rw [Py Eh] at Gx
  simp only at d1 d2 d3 d4 wT ⊢
  generalize iu (cz g es W.d).2.1 { W with d:=iE (cz g es W.d).1 }=X at *
  refine ⟨by rw [d1];exact t_,by rw [d2];exact hI.e,by rw [d3];exact hI.gone,by rw [d4];exact hI.pV,by rw [d1];exact RU _,oR,fun k hk=>?_,by omega,?_⟩
  ·rcases (jx k).1 hk with hk | hk
   ·exact hI.rows k hk
   ·exact Xi k hk
  ·rw [Im (by rw [d1];exact xU),d1];omega
 ·rw [e]
  have Eh:calm g (cU es) W.d:=(Kn Ey).2 ⟨h2,h3⟩
  obtain ⟨i,hi,q1,q2,q3,q4,q5⟩:=SC h4
  have t_:=Yjk x.2 hI.rt
  have xU:=Ta (SG W.d x.2) hI.rt t_ hu Eh
  have hl:(W.d.eraseIdx x.2).length=W.d.length - 1:=mM q5
  obtain ⟨d1,d2,d3,d4⟩:=Po (x.1:Int) { W with d:=W.d.eraseIdx x.2 }
  have wT:=KC (x.1:Int) { W with d:=W.d.eraseIdx x.2 }
  have oR:=Rg (k:=(x.1:Int)) (W:={ W with d:=W.d.eraseIdx x.2 }) hI.nodup
  have jx:=fun j=>Tk (k:=(x.1:Int)) (j:=j) (W:={ W with d:=W.d.eraseIdx x.2 })
  rw [Im Eh] at Gx
  simp only at d1 d2 d3 d4 wT ⊢
  generalize kc (x.1:Int) { W with d:=W.d.eraseIdx x.2 }=X at *
  refine ⟨by rw [d1];exact t_,by rw [d2];exact hI.e,by rw [d3];exact hI.gone,by rw [d4];exact hI.pV,by rw [d1];exact Q6 _ hI.tidy,oR,fun k hk=>?_,by omega,?_⟩
  ·rcases (jx k).1 hk with hk | rfl
   ·exact hI.rows k hk
   ·omega
  ·rw [Im (by rw [d1];exact xU),d1];omega
 ·rw [e] at h1;exact absurd h1 (by simp)
 ·rw [e] at h1;exact absurd h1 (by simp)
theorem EJ {g:List Sy} {es:List (List Li)} {c:List Li} (h:sG es c) (hw:cM g (c :: es)=0):IW g es 70 (AQ c):=by
 have BD:j4 g c:=⟨DH hw c (by simp),(h.2 c (by simp)).2⟩
 have t_:=N6 BD
 refine ⟨t_,rfl,rfl,rfl,RU c,kG,fun k hk=>(by cases hk),by simp [AQ],?_⟩
 have hl:=(yV t_.1).2.1
 have hd:(AQ c).d=iE c:=rfl
 by_cases hc:calm g (cU es) (AQ c).d
 ·rw [Im hc,hd];omega
 ·rw [Py hc,hd];omega
theorem Yvx {g:List Sy} {es:List (List Li)} {W:Wk} (h:(dD (cS g es) W).1≠1):(dD (cS g es) W).2.d=W.d:=by
 rcases JT g es W with ⟨_,e⟩ | ⟨_,_,e⟩ | ⟨_,h2,h3,e⟩ | ⟨_,h2,h3,x,h4,e⟩ | ⟨_,_,_,_,k,_,e⟩ | ⟨_,_,_,_,_,e⟩
 ·rw [e]
 ·rw [e]
 ·rw [e] at h;exact absurd rfl h
 ·rw [e] at h;exact absurd rfl h
 ·rw [e]
 ·rw [e]
theorem LI (g:List Sy) (es:List (List Li)) (c:List Li) (h:sG es c) :
  aJ Tryz.prog 9 [.ps 4 (syms g), .ps 1 (cX es), .ps 5 (lits c)] (.dz [(gM g es c).1.aO, .int .i64 (gM g es c).2]):=by
 have hl:=h.1
 have BD:=fun hw:cM g (c :: es)=0=>(⟨DH hw c (by simp),(h.2 c (by simp)).2⟩:j4 g c)
 refine Yxr g es c (fun n W=>cM g (c :: es)=0∧IW g es n W) (fun x hx=>(h.2 x hx).1) (fun hw=>zV (BD hw)) (by omega) (fun hw x hx=>zV (Cj h hw x hx)) (fun hw=>⟨hw,EJ h hw⟩) ?_ ?_ ?_
 ·rintro n W ⟨hw,hI⟩
  obtain ⟨fp,Ey⟩:=N5 h hw hI.rt
  have Gx:=hI.mu
  have hlen:=hI.len
  have yq:=QM g es W.d
  exact ⟨⟨n - 1,by omega⟩,zV hI.rt,fp,fun h2=>zV (KJ fp h2).2.1,by omega⟩
 ·rintro n W ⟨hw,hI⟩ h1
  exact ⟨hw,OO h hw hI h1⟩
 ·rintro n W ⟨hw,hI⟩ h1 _
  rw [Yvx h1]
  exact ⟨zV hI.rt,Ym0 hI.rt⟩
theorem TA {g:List Sy} {es:List (List Li)} {c:List Li} (h:sG es c) (hw:cM g (c :: es)=0):∀ (n:Nat) (W:Wk),IW g es n W→∃ (m:Nat) (X:Wk),IW g es m X∧(dD (cS g es) X).1≠1∧wG g es n W=(dD (cS g es) X).2
 | 0,W,hI=>absurd hI.mu (by omega)
 | n+1,W,hI=>by
  rw [wG]
  split
  ·rename_i h1
   exact TA h hw n _ (OO h hw hI h1)
  ·rename_i h1
   exact ⟨n+1,W,hI,h1,rfl⟩
theorem Pl {g:List Sy} {d:List Li} (hd:j4 g d):(d.any qc)=false:=by
 rw [← da,dM]
 rintro ⟨l,hl,ho⟩
 obtain ⟨a1,a2⟩:=uE hd hl
 unfold qc at ho
 simp [(oH a1.1).1,(oH a2.1).1] at ho
theorem YZ {g:List Sy} {c d:List Li} (hc:j4 g c) (hd:j4 g d):jr c d=0:=by
 have h1:=(yV hc.1).2.1
 have h2:=(yV hd.1).2.1
 unfold jr
 rw [if_neg (by omega),Pl hc,Pl hd];rfl
theorem XV {g:List Sy} {d:List Li} (hd:j4 g d):iC (cR d)=false:=by
 rw [← da]
 unfold iC
 rw [dM]
 rintro ⟨t,ht,ho⟩
 unfold cR at ht
 rw [oG] at ht
 obtain ⟨l,hl,ht⟩:=ht
 obtain ⟨a1,a2⟩:=uE hd hl
 simp only [aQ,en,or_false] at ht
 rcases ht with rfl | rfl
 ·simp [(oH a1.1).1] at ho
 ·simp [(oH a2.1).1] at ho
theorem Yjb {g:List Sy} {d:List Li} (hd:j4 g d):mD d=(sK d,0):=by unfold mD;rw [XV hd];rfl
theorem KF {g:List Sy} {c d:List Li} (hc:j4 g c) (hd:j4 g d):jl c d=(pS c d,0):=by unfold jl;rw [if_neg (by simp [YZ hc hd])]
theorem Zzo {g:List Sy} {es:List (List Li)} {c:List Li} (h:sG es c) :
  (cM g (c :: es)≠0∧gM g es c=(⟨[],[],0,0⟩,cM g (c :: es))) ∨
  (cM g (c :: es)=0∧∃ (n:Nat) (X:Wk),IW g es n X ∧
   ((kS X.d=true∧gM g es c=(⟨sK X.d,X.u,1, -1⟩,0)) ∨
    (kS X.d=false∧(cz g es X.d).2.2≠0∧gM g es c=(⟨[],[],0,0⟩,(cz g es X.d).2.2)) ∨
    (kS X.d=false∧(cz g es X.d).2.2=0∧(cz g es X.d).2.1=[]∧mX 0 es X.d=none∧∃ k,jA 0 es X.d=some k∧gM g es c=(⟨sK X.d,X.u,2,(k:Int)⟩,0)) ∨
    (kS X.d=false∧(cz g es X.d).2.2=0∧(cz g es X.d).2.1=[]∧mX 0 es X.d=none∧jA 0 es X.d=none∧gM g es c=(⟨sK X.d,X.u,0, -1⟩,0)))):=by
 by_cases hw:cM g (c :: es)=0
 case neg=>exact .inl ⟨hw,by unfold gM;rw [if_pos hw]⟩
 refine .inr ⟨hw,?_⟩
 obtain ⟨n,X,hI,h1,e⟩:=TA h hw 70 (AQ c) (EJ h hw)
 have hF:gM g es c=qy (dD (cS g es) X).2:=by unfold gM;rw [if_neg (by simp [hw]),e]
 have hN:=Yjb hI.rt
 refine ⟨n,X,hI,?_⟩
 rw [hF]
 rcases JT g es X with ⟨q1,e⟩ | ⟨q1,q2,e⟩ | ⟨_,h2,h3,e⟩ | ⟨_,h2,h3,x,h4,e⟩ | ⟨q1,q2,q3,q4,k,q5,e⟩ | ⟨q1,q2,q3,q4,q5,e⟩
 ·refine .inl ⟨q1,?_⟩
  rw [e];unfold qy
  simp only [hI.e,hN,hI.pV];rfl
 ·refine .inr (.inl ⟨q1,q2,?_⟩)
  rw [e];unfold qy
  simp only
  rw [if_pos q2]
 ·rw [e] at h1;exact absurd rfl h1
 ·rw [e] at h1;exact absurd rfl h1
 ·refine .inr (.inr (.inl ⟨q1,q2,q3,q4,k,q5,?_⟩))
  rw [e];unfold qy
  simp only [hI.e,hN];rfl
 ·refine .inr (.inr (.inr ⟨q1,q2,q3,q4,q5,?_⟩))
  rw [e];unfold qy
  simp only [hI.e,hN,hI.pV,hI.gone];rfl
section
variable {r:Int→Int} {p:Int→Prop}
end
theorem Ur:∀ (n:Nat) (l:List Int),l.Nodup→(∀ v∈l,0≤v∧v<n)→l.length≤n
 | 0,l,_,h=>by
  cases l with
  | nil=>exact ah _
  | cons a l=>have:=h a (by simp);omega
 | n+1,l,hn,h=>by
  have h1:=Ur n (l.erase (n:Int)) (hn.erase _) (fun v hv=>by
   rw [hn.mem_erase_iff] at hv
   have:=h v hv.2
   have:=hv.1
   omega)
  have h2:l.length≤(l.erase (n:Int)).length+1:=by
   rw [List.length_erase];split<;>omega
  omega
theorem Zd (S:List Int) (v:Int):∃ l,kM S v=S++l:=by
 unfold kM;split
 ·exact ⟨[],by simp⟩
 ·exact ⟨[v],rfl⟩
theorem Uw (S:List Int) (v w:Int):w∈kM S v↔w∈S∨w=v:=by
 unfold kM;split
 ·rename_i h
  exact ⟨.inl,fun h2=>h2.elim id fun e=>e ▸ h⟩
 ·simp
theorem Zyc {S:List Int} (v:Int) (h:S.Nodup):(kM S v).Nodup:=by
 unfold kM;split
 ·exact h
 ·rename_i hn
  rw [gD]
  refine ⟨h,by simp,fun a ha b hb e=>?_⟩
  rw [aN.1 hb] at e
  exact hn (e ▸ ha)
theorem Ys2 {S l:List Int} {v:Int} (h:v∈S):(S++l).idxOf v=S.idxOf v:=by rw [List.idxOf_append,if_pos h]
mutual
theorem Yr2:∀ (t:Tm) (S:List Int), ∃ l,(t.num S).2=S++l
 | .mk h ts,S=>by
  rw [Tm.num];split
  ·exact Zd S _
  ·exact KL ts S
theorem KL:∀ (ts:List Tm) (S:List Int), ∃ l,(Tm.fU ts S).2=S++l
 | [],S=>⟨[],by simp [Tm.fU]⟩
 | t :: ts,S=>by
  rw [Tm.fU]
  obtain ⟨l,hl⟩:=Yr2 t S
  obtain ⟨m,hm⟩:=KL ts (t.num S).2
  exact ⟨l++m,by simp only;rw [hm,hl,cG]⟩
end
mutual
theorem WB:∀ (t:Tm) (S:List Int),S.Nodup→(t.num S).2.Nodup
 | .mk h ts,S,hn=>by
  rw [Tm.num];split
  ·exact Zyc _ hn
  ·exact JU ts S hn
theorem JU:∀ (ts:List Tm) (S:List Int),S.Nodup→(Tm.fU ts S).2.Nodup
 | [],S,hn=>by rw [Tm.fU];exact hn
 | t :: ts,S,hn=>by rw [Tm.fU];exact JU ts _ (WB t S hn)
end
mutual
theorem Ynr {P:Int→Prop}:∀ (t:Tm) (S:List Int),(∀ v∈S,P v)→t.gU P→∀ v∈(t.num S).2,P v
 | .mk h ts,S,hS,ht=>by
  rw [Tm.gU] at ht
  rw [Tm.num];split
  ·rename_i fN
   intro v hv
   rcases (Uw S _ v).1 hv with hv | rfl
   ·exact hS v hv
   ·exact ht.1 fN
  ·exact KH ts S hS ht.2
theorem KH {P:Int→Prop}:∀ (ts:List Tm) (S:List Int),(∀ v∈S,P v)→Tm.jc P ts→∀ v∈(Tm.fU ts S).2,P v
 | [],S,hS,_=>by rw [Tm.fU];exact hS
 | t :: ts,S,hS,ht=>by rw [Tm.jc] at ht;rw [Tm.fU];exact KH ts _ (Ynr t S hS ht.1) ht.2
end
mutual
theorem Yu4:∀ (t:Tm) (S:List Int) (T:List Int),t.good=true→(∃ l,T=(t.num S).2++l)→(t.num S).1=t.rn (fun v=>(T.idxOf v:Int))∧t.gU (· ∈ T)
 | .mk h ts,S,T,hg,⟨l,hT⟩=>by
  by_cases fN:h<0
  ·rw [Tm.num,if_pos fN] at hT ⊢
   have hm:(-1 - h)∈kM S (-1 - h):=(Uw S _ _).2 (.inr rfl)
   have ha:=Hq hg fN
   simp only [Tm.args] at ha
   subst ha
   refine ⟨?_,?_⟩
   ·rw [Fx (t:=.mk h []) fN]
    show Tm.mk _ []=Tm.mk _ []
    rw [show (Tm.mk h []).head=h from rfl,hT,Ys2 hm]
   ·rw [Tm.gU]
    exact ⟨fun _=>by rw [hT];exact gC _ hm,trivial⟩
  ·rw [Tm.num,if_neg fN] at hT ⊢
   obtain ⟨a1,a2⟩:=Lq ts S T (w8 hg) ⟨l,hT⟩
   refine ⟨?_,?_⟩
   ·rw [FB (t:=.mk h ts) fN]
    show Tm.mk _ _=Tm.mk _ _
    rw [a1];rfl
   ·rw [Tm.gU]
    exact ⟨fun k=>absurd k fN,a2⟩
theorem Lq:∀ (ts:List Tm) (S:List Int) (T:List Int),(∀ t∈ts,t.good=true)→(∃ l,T=(Tm.fU ts S).2++l)→(Tm.fU ts S).1=ts.map (Tm.rn fun v=>(T.idxOf v:Int))∧Tm.jc (· ∈ T) ts
 | [],S,T,_,_=>⟨by rw [Tm.fU];rfl,trivial⟩
 | t :: ts,S,T,hg,⟨l,hT⟩=>by
  rw [Tm.fU] at hT ⊢
  simp only at hT ⊢
  obtain ⟨m,hm⟩:=KL ts (t.num S).2
  obtain ⟨a1,a2⟩:=Yu4 t S T (hg t (by simp)) ⟨m++l,by rw [hT,hm,cG]⟩
  obtain ⟨b1,b2⟩:=Lq ts (t.num S).2 T (fun x hx=>hg x (by simp [hx])) ⟨l,hT⟩
  exact ⟨by rw [a1,b1];rfl,by rw [Tm.jc];exact ⟨a2,b2⟩⟩
end
def oY (c:List Li):List Int:=(Tm.fU (cR c) []).2
def AG (c:List Li):Int→Int:=fun v=>((oY c).idxOf v:Int)
theorem OG (r:Int→Int):∀ c:List Li,xp c ((cR c).map (Tm.rn r))=tb r c
 | []=>rfl
 | l :: c=>by
  rw [show cR (l :: c)=l.l :: l.r :: cR c from rfl,aF,aF,xp,OG r c];rfl
mutual
theorem Zyj:∀ t:Tm,t.good=true→t.gU fun v=>0≤v∧v<256
 | .mk h ts,hg=>by
  rw [Tm.gU]
  have:=(zH hg).1
  simp only [Tm.head] at this
  exact ⟨fun hn=>by omega,JH ts (w8 hg)⟩
theorem JH:∀ ts:List Tm,(∀ t∈ts,t.good=true)→Tm.jc (fun v=>0≤v∧v<256) ts
 | [],_=>trivial
 | t :: ts,h=>⟨Zyj t (h t (by simp)),JH ts fun x hx=>h x (by simp [hx])⟩
end
theorem Zzs {g:List Sy} {d:List Li} (hd:j4 g d):∀ t∈cR d,t.good=true:=fun t ht=>by
 unfold cR at ht
 rw [oG] at ht
 obtain ⟨l,hl,ht⟩:=ht
 obtain ⟨a1,a2⟩:=uE hd hl
 simp only [aQ,en,or_false] at ht
 rcases ht with rfl | rfl
 ·exact (sm (oH a1.1).1).2.2
 ·exact (sm (oH a2.1).1).2.2
theorem WA {p:Int→Prop} {d:List Li} (h:Tm.jc p (cR d)):zY p d:=fun l hl=>by
 rw [J5] at h
 have hm:∀ t∈[l.l,l.r],t∈cR d:=fun t ht=>by
  unfold cR
  rw [oG]
  exact ⟨l,hl,ht⟩
 exact ⟨h _ (hm _ (by simp)),h _ (hm _ (by simp))⟩
theorem Ps {g:List Sy} {d:List Li} (hd:j4 g d):lF (AG d) (· ∈ oY d)∧zY (· ∈ oY d) d∧sK d=tb (AG d) d:=by
 have hg:=Zzs hd
 obtain ⟨h1,h2⟩:=Lq (cR d) [] (oY d) hg ⟨[],by simp [oY]⟩
 have oR:(oY d).Nodup:=JU (cR d) [] kG
 have hv:∀ v∈oY d,0≤v∧v<256:=KH (P:=fun v=>0≤v∧v<256) (cR d) [] (fun v hv=>by cases hv) (JH _ hg)
 have hlen:=Ur 256 _ oR (by simpa using hv)
 refine ⟨⟨fun v w hv hw e=>?_,fun v hv=>?_,fun v h=>(hv v h).1⟩,WA h2,?_⟩
 ·unfold AG at e
  have e2:(oY d).idxOf v=(oY d).idxOf w:=by omega
  have l1:=iN hv
  have l2:=iN hw
  have g1:=List.getElem_idxOf l1
  have g2:=List.getElem_idxOf l2
  rw [← g1,← g2]
  simp only [e2]
 ·have:=iN hv
  unfold AG;omega
 ·unfold sK
  rw [h1,OG];rfl
section
variable {r:Int→Int} {p:Int→Prop}
def Bd.rn (r:Int→Int) (b:Bd):Bd:=⟨b.v,b.t.rn r⟩
def sM (p:Int→Prop) (m:List Bd):Prop:=∀ b∈m,xr p b.t
theorem Io (v:Int):∀ m:List Bd,(m.map (Bd.rn r)).find? (fun c=>c.v==v)=(m.find? fun c=>c.v==v).map (Bd.rn r)
 | []=>rfl
 | b :: m=>by
  rw [aF,j7,j7,show (Bd.rn r b).v=b.v from rfl]
  cases b.v==v
  ·exact Io v m
  ·rfl
theorem Zy8 {α:Type} {l:List α} {f g : α→Bool} (h:∀ x∈l,f x=g x):l.any f=l.any g:=by
 induction l with
 | nil=>rfl
 | cons a l ih=>rw [dX,dX,h a (by simp),ih fun x hx=>h x (by simp [hx])]
theorem Yla {t:Tm} (h:xr p t):∀ u∈t.args,xr p u:=fun u hu=>⟨w8 h.1 u hu,HU h.2 u hu⟩
theorem Yub (hr:lF r p):∀ (s:List (Tm×Tm)) (m:List Bd),(∀ x∈s,xr p x.2)→sM p m →
  fh (s.map fun x=>(x.1,x.2.rn r)) (m.map (Bd.rn r))=(fh s m).map (List.map (Bd.rn r))∧∀ m',fh s m=some m'→sM p m':=by
 intro s m
 induction s,m using fh.induct with
 | case1 m =>
  intro hs hm
  refine ⟨by rw [aS,fh,fh];rfl,fun m' h=>?_⟩
  rw [fh] at h;cases h;exact hm
 | case2 x q m hv c hf he ih =>
  intro hs hm
  have hc:=hm c (bI hf)
  obtain ⟨i1,i2⟩:=ih (fun y hy=>hs y (by simp [hy])) hm
  refine ⟨?_,fun m' h=>?_⟩
  ·rw [aF,fh,fh,if_pos hv,if_pos hv,hf]
   simp only
   rw [Io,hf]
   simp only [bu,if_pos he]
   rw [if_pos (by show c.t.rn r = _;rw [he])]
   exact i1
  ·rw [fh,if_pos hv,hf] at h
   simp only [if_pos he] at h
   exact i2 m' h
 | case3 x q m hv c hf he =>
  intro hs hm
  have hc:=hm c (bI hf)
  have hx:=hs x (by simp)
  refine ⟨?_,fun m' h=>?_⟩
  ·rw [aF,fh,fh,if_pos hv,if_pos hv,hf]
   simp only
   rw [Io,hf]
   simp only [bu,if_neg he]
   rw [show (Bd.rn r c).t=c.t.rn r from rfl,if_neg (fun k=>he (Pz hr _ _ hc.1 hx.1 hc.2 hx.2 k))]
   rfl
  ·rw [fh,if_pos hv,hf] at h
   simp only [if_neg he] at h
   cases h
 | case4 x q m hv hf ih =>
  intro hs hm
  have hx:=hs x (by simp)
  obtain ⟨i1,i2⟩:=ih (fun y hy=>hs y (by simp [hy])) (fun b hb=>by
   rcases aW.1 hb with hb | hb
   ·exact hm b hb
   ·rw [aN.1 hb];exact hx)
  refine ⟨?_,fun m' h=>?_⟩
  ·rw [aF,fh,fh,if_pos hv,if_pos hv,hf]
   simp only
   rw [Io,hf]
   simp only [j8]
   rw [cL] at i1
   exact i1
  ·rw [fh,if_pos hv,hf] at h
   exact i2 m' h
 | case5 x q m hv hc =>
  intro hs hm
  have hx:=hs x (by simp)
  refine ⟨?_,fun m' h=>?_⟩
  ·rw [aF,fh,fh,if_neg hv,if_neg hv,if_pos hc]
   simp only
   rw [if_pos]
   ·rfl
   by_cases hn:x.2.head<0
   ·left
    have:=(ET hr hx.2).2 hn
    omega
   ·rw [(y6 hn).1,(y6 hn).2,ak];exact hc
  ·rw [fh,if_neg hv,if_pos hc] at h
   cases h
 | case6 x q m hv hc ih =>
  intro hs hm
  have hx:=hs x (by simp)
  have hn:¬ x.2.head<0:=by
   intro k;apply hc;left;omega
  obtain ⟨i1,i2⟩:=ih (fun y hy=>by
   rcases aW.1 hy with hy | hy
   ·exact Yla hx _ (cW (cO.1 hy)).2
   ·exact hs y (by simp [hy])) hm
  refine ⟨?_,fun m' h=>?_⟩
  ·rw [aF,fh,fh,if_neg hv,if_neg hv,if_neg hc]
   simp only
   rw [if_neg (by rw [(y6 hn).1,(y6 hn).2,ak];exact hc),(y6 hn).2,← i1,cL,List.map_reverse]
   have:∀ a b:List Tm,a.zip (b.map (Tm.rn r))=(a.zip b).map fun x=>(x.1,x.2.rn r):=by
    intro a
    induction a with
    | nil=>intro b;rfl
    | cons y a ih=>intro b;cases b with
     | nil=>rfl
     | cons z b=>rw [aF,e7,e7,aF,ih b]
   rw [this]
  ·rw [fh,if_neg hv,if_neg hc] at h
   exact i2 m' h
theorem OT (hr:lF r p) {b:List Bd} {q t:Tm} (ht:xr p t) (hb:sM p b):kU (b.map (Bd.rn r)) q (t.rn r)=(kU b q t).map (List.map (Bd.rn r))∧∀ m,kU b q t=some m→sM p m :=
 Yub hr [(q,t)] b (fun x hx=>by rw [aN.1 hx];exact ht) hb
theorem OM (hr:lF r p) {b:List Bd} {a:Li} {x y:Tm} (hx:xr p x) (hy:xr p y) (hb:sM p b) {F G:List Bd→Bool} (hF:∀ m,sM p m→G (m.map (Bd.rn r))=F m):ke (b.map (Bd.rn r)) a (x.rn r) (y.rn r) G=ke b a x y F:=by
 unfold ke
 obtain ⟨h1,h2⟩:=OT hr (q:=a.l) hx hb
 rw [h1]
 cases hm:kU b a.l x with
 | none=>rfl
 | some m =>
  obtain ⟨h3,h4⟩:=OT hr (q:=a.r) hy (h2 m hm)
  simp only [bu]
  rw [h3]
  cases hk:kU m a.r y with
  | none=>rfl
  | some k=>exact hF k (h4 k hk)
theorem Ys6 (hr:lF r p) {l:Li} (h:uj p l):kK (l.rn r)=kK l:=by
 unfold kK
 rw [show (l.rn r).l=l.l.rn r from rfl,show (l.rn r).r=l.r.rn r from rfl]
 simp only [K9 hr h.1,K9 hr h.2]
theorem Ypt (hr:lF r p) {b:List Bd} {a l:Li} (hl:uj p l) (hb:sM p b) {F G:List Bd→Bool} (hF:∀ m,sM p m→G (m.map (Bd.rn r))=F m):lz (b.map (Bd.rn r)) a (l.rn r) G=lz b a l F:=by
 unfold lz
 rw [Ys6 hr hl,show (l.rn r).l=l.l.rn r from rfl,show (l.rn r).r=l.r.rn r from rfl,OM hr hl.1 hl.2 hb hF,OM hr hl.2 hl.1 hb hF]
theorem Yor {d:List Li} {k:Nat} (hk:k<d.length):(tb r d).getD k jz=(d.getD k jz).rn r∧d.getD k jz∈d:=by
 unfold tb
 simp [List.getD,hk]
theorem PG (hr:lF r p) {d:List Li} (hd:∀ l∈d,uj p l):∀ (c:List Li) (us:List Bool) (b:List Bd),sM p b→l6 (tb r d) c us (b.map (Bd.rn r))=l6 d c us b
 | [],_,_,_=>by rw [l6,l6]
 | a :: c,us,b,hb=>by
  rw [l6,l6,show (tb r d).length=d.length by unfold tb;simp]
  refine Zy8 fun k hk=>?_
  obtain ⟨e1,e2⟩:=Yor (r:=r) (d:=d) (k:=k) (by simpa using hk)
  rw [e1,show ((d.getD k jz).rn r).neg=(d.getD k jz).neg from rfl,Ypt hr (hd _ e2) hb fun m hm=>PG hr hd c _ m hm]
theorem Yq6 (hr:lF r p) {c d:List Li} (hd:∀ l∈d,uj p l):pS c (tb r d)=pS c d:=by
 unfold pS
 have h:=PG hr hd c (ia d) [] (fun b hb=>by cases hb)
 have hn:ia (tb r d)=ia d:=by unfold ia tb;simp
 rw [hn,show (tb r d).length=d.length by unfold tb;simp,← h];rfl
end
end Go.Proofs
namespace Go.Proofs
open Go Go.c8
attribute [local go_sem] Nat.reduceAdd Nat.reduceSub Nat.reduceMul Nat.reduceLeDiff Nat.reduceEqDiff Nat.reduceBEq Nat.reduceLT Nat.le_refl Int.natCast_zero Nat.sub_zero List.length_map Int.toNat_natCast Int.natCast_one Int.reduceEq Int.reduceLT Int.reduceLE Int.reduceNe Int.sub_zero Int.zero_add Int.toNat_one
theorem KP:aJ Tryz.prog 45 [] (.ps 4 (syms rN)):=by
 refine aJ.begin (rs:=[.tmp 0]) (m:=6) 1000 Tryz.func45 rfl rfl rfl (by decide) (dK _) ?_
 have e1:syms rN=[.agg [.str ⟨#[36,116,114,117,101]⟩, .int .i64 0, .int .i64 1, .bool true], .agg [.str ⟨#[97]⟩, .int .i64 0, .int .i64 1, .bool false], .agg [.str ⟨#[102]⟩, .int .i64 1, .int .i64 1, .bool false], .agg [.str ⟨#[112]⟩, .int .i64 1, .int .i64 1, .bool true]]:=rfl
 simp only [go_sem,e1]
theorem DW (t:Tm):aJ Tryz.prog 44 [t.aO] (.ps 5 (lits (ij t))):=by
 refine aJ.begin (rs:=[.tmp 2]) (m:=8) 1000 Tryz.func44 rfl rfl rfl (by decide) (cr _) ?_
 have h1:=Ix 3 [t]
 have h2:=Ix 0 []
 simp only [go_sem,ft]
 refine aq.bU [1] h1 ?_ (by simp [go_sem,dC]) ?_
 ·simp only [go_sem,rf,rh,aF,aS,dc]
 rw [show bO (Tm.mk 3 [t]).aO=false from rfl]
 refine aK.go 1000 ?_
 simp only [go_sem,rf,rh]
 refine aq.bU [] h2 ?_ (by simp [go_sem,dC]) ?_
 ·simp only [go_sem,aS]
 rw [jb];simp only [ite_self]
 refine aK.go 1000 ?_
 have e1:lits (ij t)=[.agg [.bool false, .int .i64 (Tm.mk 3 [t]).head, .ps 2 ((Tm.mk 3 [t]).args.map Tm.aO), .int .i64 (Tm.mk 0 []).head, .ps 2 ((Tm.mk 0 []).args.map Tm.aO)]]:=rfl
 simp only [go_sem,ft,e1]
def nQ (c:List Li):Bool:=iG c&&(decide (c.length≤6)||decide (32<c.length))
theorem Ts (c:List Li):aJ Tryz.prog 22 [.ps 5 (lits c)] (.bool (nQ c)):=by
 refine aJ.begin (rs:=[.tmp 2]) (m:=14) 1000 Tryz.func22 rfl rfl rfl (by decide) trivial ?_
 unfold nQ
 simp only [go_sem]
 refine aq.bU [] (Rb c) (cE _ _ _) ⟨cr _,trivial⟩ ?_
 simp only [bO,bX,bW,if_true]
 refine aK.go 1000 ?_
 cases h:iG c
 ·simp only [go_sem]
 ·by_cases h1:c.length≤6
  ·have nB:(c.length:Int)≤6:=by omega
   simp only [go_sem,fP,nB,h1,decide_true,fH,Bool.and_self]
  ·have nB:¬ (c.length:Int)≤6:=by omega
   by_cases h2 : 32<c.length
   ·have uG:(32:Int)<(c.length:Int):=by omega
    simp only [go_sem,fP,nB,h1,uG,h2,decide_true,decide_false,Bool.or_true,Bool.and_self]
   ·have uG:¬ (32:Int)<(c.length:Int):=by omega
    simp only [go_sem,fP,nB,h1,uG,h2,decide_true,decide_false,Bool.or_false,gW]
def pg (c:List Li):Bool:=!nQ c || !pw c
def rU (g:List Sy) (es:List (List Li)) (c:List Li):Bool:=if es.length≤8∧es.any pg=true then false else ly g&&oM es&&pw c&&nQ c
theorem Zv (g:List Sy) (es:List (List Li)) (c:List Li) (hc:c.length≤2600000000000):aJ Tryz.prog 8 [.ps 4 (syms g), .ps 1 (cX es), .ps 5 (lits c)] (.bool (rU g es c)):=by
 refine aJ.begin (rs:=[.tmp 6]) (m:=44) 1000 Tryz.func8 rfl rfl rfl (by decide) trivial ?_
 obtain ⟨Z,hZ⟩:∃ Z,rU g es c=Z:=⟨_,rfl⟩
 rw [hZ]
 unfold rU at hZ
 simp only [go_sem]
 refine aK.c_ (ι:={i:Nat // i≤es.length∧(es.length≤8→(es.drop i).any pg=es.any pg)∧(i=0∨es.length≤8)}) 1000 (fun q=>fG 47 [(0, .ps 4 (syms g)),(1, .ps 1 (cX es)),(2, .ps 5 (lits c)),(6, .bool false),(7, .int .i64 q.1)])
  (fun _=>[]) (fun q=>es.length - q.1) ⟨0,av _,fun _=>rfl, .inl rfl⟩ ?_ (fun _=>av _) ?_
 ·simp only [go_sem,dK,fe,cr]
 ·rintro ⟨i,hi,aP,h8⟩
  have hend:(es.length≤8→es.any pg=false)→(ly g&&oM es&&pw c&&nQ c)=Z:=fun h=>by
   rw [if_neg (by rintro ⟨a,b⟩;rw [h a] at b;cases b)] at hZ
   exact hZ
  have hS:=V9 g
  have hE:=XT es
  have UM:=Sx c hc
  have UN:=Ts c
  by_cases bD:(i:Int)<es.length
  ·have aZ:i<es.length:=by omega
   by_cases IP:es.length≤8
   ·have Ae:(es.length:Int)≤8:=by omega
    have hw:IntKind.i64.wrap ((i:Int)+1)=((i+1:Nat):Int):=by rw [ek (by omega)];omega
    have hp:=aP IP
    rw [ao aZ,dX] at hp
    have g1:=y5 aZ
    have Nc:=Ts es[i]
    have Nb:=fun h:es[i].length≤2600000000000=>Sx es[i] h
    have hlen:nQ es[i]=true→es[i].length≤40:=fun h=>by
     unfold nQ at h
     rw [aD] at h
     exact (Q7 h.1).2
    generalize es[i]=r at *
    have qC:pg r=true→Z=false:=fun h=>by
     rw [h,fH] at hp
     rw [if_pos ⟨IP,hp.symm⟩] at hZ
     exact hZ.symm
    have j9:pg r=false→(es.drop (i+1)).any pg=es.any pg:=fun h=>by rw [h,dn] at hp;exact hp
    simp only [go_sem,mH,bD,Ae,g1]
    refine ⟨by omega,?_⟩
    refine aq.bU [] Nc (cE _ _ _) ⟨cr _,trivial⟩ ?_
    simp only [bO,bX,bW,if_true]
    refine aK.go 1000 ?_
    cases q1:nQ r
    ·have:=qC (by unfold pg;rw [q1];rfl)
     subst this
     simp only [go_sem]
     refine aK.go 1000 ?_
     simp only [go_sem]
    ·have hr:=Nb (by have:=hlen q1;omega)
     simp only [go_sem,mH,bD,Ae,g1]
     refine ⟨by omega,?_⟩
     refine aq.bU [] hr (cE _ _ _) ⟨cr _,trivial⟩ ?_
     simp only [bO,bX,bW,if_true]
     refine aK.go 1000 ?_
     cases q2:pw r
     ·have:=qC (by unfold pg;rw [q1,q2];rfl)
      subst this
      simp only [go_sem]
      refine aK.go 1000 ?_
      simp only [go_sem]
     ·simp only [go_sem,hw]
      refine ⟨⟨i+1,by omega,fun _=>j9 (by unfold pg;rw [q1,q2];rfl), .inr IP⟩,?_,by simp only;omega⟩
      simp only [go_sem,dK,fe,cr]
   ·have Ae:¬ (es.length:Int)≤8:=by omega
    have hz:=hend fun h=>absurd h IP
    clear hend
    simp only [go_sem,mH,bD,Ae]
    refine aK.go 1000 ?_
    simp only [go_sem]
    refine aq.bU [] hS (cE _ _ _) ⟨dK _,trivial⟩ ?_
    simp only [bO,bX,bW,if_true]
    refine aK.go 1000 ?_
    cases e1:ly g
    ·rw [e1] at hz
     rw [← hz]
     simp only [go_sem]
    ·simp only [go_sem]
     refine aq.bU [] hE (cE _ _ _) ⟨fe _,trivial⟩ ?_
     simp only [bO,bX,bW,if_true]
     refine aK.go 1000 ?_
     cases e2:oM es
     ·rw [e1,e2] at hz
      rw [← hz]
      simp only [go_sem]
     ·simp only [go_sem]
      refine aq.bU [] UM (cE _ _ _) ⟨cr _,trivial⟩ ?_
      simp only [bO,bX,bW,if_true]
      refine aK.go 1000 ?_
      cases e3:pw c
      ·rw [e1,e2,e3] at hz
       rw [← hz]
       simp only [go_sem]
      ·simp only [go_sem]
       refine aq.bU [] UN (cE _ _ _) ⟨cr _,trivial⟩ ?_
       simp only [bO,bX,bW,if_true]
       refine aK.go 1000 ?_
       rw [e1,e2,e3,ct,ct,ct] at hz
       rw [hz]
       simp only [go_sem]
  ·have dP:i=es.length:=by omega
   subst dP
   have hz:=hend fun h=>by rw [← aP h,aV];rfl
   simp only [go_sem,mH,bD]
   refine aK.go 1000 ?_
   simp only [go_sem]
   refine aq.bU [] hS (cE _ _ _) ⟨dK _,trivial⟩ ?_
   simp only [bO,bX,bW,if_true]
   refine aK.go 1000 ?_
   cases e1:ly g
   ·rw [e1] at hz
    rw [← hz]
    simp only [go_sem]
   ·simp only [go_sem]
    refine aq.bU [] hE (cE _ _ _) ⟨fe _,trivial⟩ ?_
    simp only [bO,bX,bW,if_true]
    refine aK.go 1000 ?_
    cases e2:oM es
    ·rw [e1,e2] at hz
     rw [← hz]
     simp only [go_sem]
    ·simp only [go_sem]
     refine aq.bU [] UM (cE _ _ _) ⟨cr _,trivial⟩ ?_
     simp only [bO,bX,bW,if_true]
     refine aK.go 1000 ?_
     cases e3:pw c
     ·rw [e1,e2,e3] at hz
      rw [← hz]
      simp only [go_sem]
     ·simp only [go_sem]
      refine aq.bU [] UN (cE _ _ _) ⟨cr _,trivial⟩ ?_
      simp only [bO,bX,bW,if_true]
      refine aK.go 1000 ?_
      rw [e1,e2,e3,ct,ct,ct] at hz
      rw [hz]
      simp only [go_sem]
theorem Qp (g:List Sy) (es:List (List Li)) (c:List Li) (h:sG es c) :
  aJ Tryz.prog 11 [.ps 4 (syms g), .ps 1 (cX es), .ps 5 (lits c)] (.dz [.bool (decide ((gM g es c).1.gone≠0)), .int .i64 (gM g es c).2]):=by
 refine aJ.begin (rs:=[.tmp 6, .tmp 7]) (m:=18) 1000 Tryz.func11 rfl rfl rfl (by decide) ⟨trivial,trivial,trivial⟩ ?_
 have hF:=LI g es c h
 generalize gM g es c=z at *
 obtain ⟨⟨d,u,gn,wh⟩,e⟩:=z
 unfold Si.aO at hF
 simp only [go_sem]
 refine aq.bU [] hF (cE _ _ _) ⟨dK _,fe _,cr _,trivial⟩ ?_
 rw [jb];simp only [ite_self]
 refine aK.go 1000 ?_
 simp only [go_sem]
theorem Yoo:gM rN nM (ij (ig ie))=(⟨ij ie,[0],0, -1⟩,0):=by kernel_rfl
theorem Yp8:gM rN (nM++[ij (ig gO)]) (ij (ig ie))=(⟨ij ie,[0],0, -1⟩,0):=by kernel_rfl
theorem Yrn:gM rN (nM++[ij gO]) (ij (ig ie))=(⟨ij ie,[0],2,1⟩,0):=by kernel_rfl
theorem Sg:(ig ie).fit:=by simp [ig,ie,Tm.fit,Tm.fits,n5]
theorem TP (t:Tm) (h:t.size<100) (hf:t.fit):sG (nM++[ij t]) (ij (ig ie)):=⟨by simp [nM],fun x hx=>by
 rcases aQ.1 hx with rfl | hx
 ·exact Lg _ (by decide) Sg
 ·rcases aW.1 hx with hx | hx
  ·exact Ol x hx
  ·rw [aN.1 hx];exact Lg t h hf⟩
set_option maxRecDepth 10000 in
theorem JW:aJ Tryz.prog 12 [] (.bool true):=by
 refine aJ.begin (rs:=[.tmp 0]) (m:=106) 1000 Tryz.func12 rfl rfl rfl (by decide) trivial ?_
 have hv:=Yoj 0 (by omega)
 rw [show Tm.mk (-1 - 0) []=gO from rfl] at hv
 have uZ:aJ Tryz.prog 43 [.int .i64 1, .ps 2 []] ie.aO:=Ix 1 []
 simp only [go_sem]
 refine aq.bU [] hv (by simp only [go_sem]) ⟨trivial,trivial⟩ ?_
 rw [jb];simp only [ite_self]
 refine aK.go 1000 ?_
 simp only [go_sem,ft]
 refine aq.bU [] uZ (by simp only [go_sem]) ⟨trivial,trivial,trivial⟩ ?_
 rw [jb];simp only [ite_self]
 refine aK.go 1000 ?_
 simp only [go_sem,ft]
 refine aK.draw [.no,⟨some 2,[2],[]⟩,⟨none,[2],[]⟩,⟨none,[],[2]⟩, .no,⟨some 3,[3],[]⟩] 2 4 mixed rfl rfl (by decide) ?_
 simp only [go_sem,dx]
 have r0:gO.aO = .agg [.int .i64 gO.head, .ps 2 (List.map Tm.aO gO.args)]:=dc _
 have r1:ie.aO = .agg [.int .i64 ie.head, .ps 2 (List.map Tm.aO ie.args)]:=dc _
 refine y0 [2] (Fo gO) ?_ ⟨trivial,⟨dC _,trivial⟩,trivial⟩ (by rw [yX];simp [fM,jM,among,eT]) ?_
 ·simp only [go_sem,rf,rh,r0]
 rw [yX]
 simp only [go_sem,fM,jM,rf,rh,a8,if_false,ft]
 refine aK.go 1000 ?_
 simp only [go_sem]
 refine aK.draw [⟨none,[],[4,5,6]⟩,⟨none,[],[5,6]⟩,⟨some 4,[4],[5,6]⟩,⟨none,[],[4,5,6]⟩,⟨none,[],[4,6]⟩,⟨some 5,[5],[4,6]⟩,⟨none,[5],[4,6]⟩,⟨none,[],[4,6]⟩,⟨none,[3,4],[6]⟩,⟨none,[],[6]⟩,⟨none,[],[6]⟩,⟨none,[],[6]⟩,⟨some 6,[6],[3,4,5]⟩,⟨none,[6],[]⟩] 4 7 mixed rfl rfl (by decide) ?_
 simp only [go_sem,dx]
 refine ny KP (cE _ _ _) trivial ?_
 simp only [go_sem]
 refine y0 [5] (Fo ie) ?_ ⟨trivial,⟨dC _,trivial⟩,trivial⟩ (by rw [yX];simp [fM,jM,among,eT]) ?_
 ·simp only [go_sem,rf,rh,r1]
 rw [yX]
 simp only [go_sem,fM,jM,rf,rh,a8,if_false,ft]
 refine ny (DW (ig ie)) (cE _ _ _) ⟨dC _,trivial⟩ ?_
 simp only [go_sem]
 have hN:=LI rN nM (ij (ig ie)) (Yu5 _ (by decide) Sg)
 rw [Yoo] at hN
 have si:(⟨ij ie,[0],0, -1⟩:Si).aO = .agg [.ps 5 (lits (ij ie)), .ps 1 (ints [0]), .int .i64 0, .int .i64 (-1)]:=rfl
 simp only [si] at hN
 have UJ:bO (.dz [.agg [.ps 5 (lits (ij ie)), .ps 1 (ints [0]), .int .i64 0, .int .i64 (-1)], .int .i64 0])=false:=rfl
 have eU:cX nM=[.ps 5 [.agg [.bool false, .int .i64 (ig gO).head, .ps 2 ((ig gO).args.map Tm.aO), .int .i64 gO.head, .ps 2 (gO.args.map Tm.aO)]]]:=rfl
 refine y0 [3,4] hN ?_ ⟨dK _,fe _,cr _,trivial⟩ (by rw [UJ];simp [fM,jM,among,eT]) ?_
 ·simp only [go_sem,rf,rh,eU]
 rw [UJ]
 simp only [go_sem,fM,jM,rf,rh,a8,if_false,ft]
 refine aK.go 1000 ?_
 simp only [go_sem]
 refine aK.draw [⟨none,[],[7,9]⟩,⟨none,[],[7,9]⟩,⟨none,[],[7,9]⟩,⟨none,[],[9]⟩,⟨some 7,[7],[9]⟩,⟨none,[7],[9]⟩,⟨none,[],[9]⟩,⟨some 8,[8],[9]⟩,⟨none,[],[7,8,9]⟩,⟨none,[],[7,8]⟩,⟨some 9,[9],[7,8]⟩,⟨none,[9],[8]⟩,⟨none,[],[8]⟩,⟨none,[3,8],[]⟩] 7 10 mixed rfl rfl (by decide) ?_
 simp only [go_sem,dx]
 refine ny KP (cE _ _ _) trivial ?_
 simp only [go_sem]
 refine y0 [7] (Fo gO) ?_ ⟨trivial,⟨dC _,trivial⟩,trivial⟩ (by rw [yX];simp [fM,jM,among,eT]) ?_
 ·simp only [go_sem,rf,rh,r0]
 rw [yX]
 simp only [go_sem,fM,jM,rf,rh,a8,if_false,ft]
 refine ny (DW (ig gO)) (cE _ _ _) ⟨dC _,trivial⟩ ?_
 simp only [go_sem]
 refine y0 [9] (Fo ie) ?_ ⟨trivial,⟨dC _,trivial⟩,trivial⟩ (by rw [yX];simp [fM,jM,among,eT]) ?_
 ·simp only [go_sem,rf,rh,r1]
 rw [yX]
 simp only [go_sem,fM,jM,rf,rh,a8,if_false,ft]
 refine ny (DW (ig ie)) (cE _ _ _) ⟨dC _,trivial⟩ ?_
 simp only [go_sem]
 have hN2:aJ Tryz.prog 11 [.ps 4 (syms rN), .ps 1 (cX (nM++[ij (ig gO)])), .ps 5 (lits (ij (ig ie)))] (.dz [.bool false, .int .i64 0]):=by
  have:=Qp rN (nM++[ij (ig gO)]) (ij (ig ie)) (TP _ (by decide) Fq.2.2.1)
  rw [Yp8] at this
  exact this
 have IK:∀ b:Bool,bO (.dz [.bool b, .int .i64 0])=true:=fun _=>rfl
 have eU2:cX (nM++[ij (ig gO)])=[.ps 5 [.agg [.bool false, .int .i64 (ig gO).head, .ps 2 ((ig gO).args.map Tm.aO), .int .i64 gO.head, .ps 2 (gO.args.map Tm.aO)]], .ps 5 (lits (ij (ig gO)))]:=rfl
 refine y0 [3,8] hN2 ?_ ⟨dK _,fe _,cr _,trivial⟩ (by rw [IK,if_pos rfl];exact zC _ _ _) ?_
 ·simp only [go_sem,rf,rh,eU2]
 rw [IK,if_pos rfl,EP]
 simp only [go_sem]
 refine aK.go 1000 ?_
 simp only [go_sem]
 refine aK.draw [⟨none,[],[11]⟩,⟨none,[],[11]⟩,⟨none,[],[11]⟩,⟨none,[],[11]⟩,⟨none,[],[11]⟩,⟨some 10,[10],[11]⟩,⟨none,[],[10,11]⟩,⟨none,[],[10]⟩,⟨some 11,[11],[10]⟩,⟨none,[11],[10]⟩,⟨none,[],[10]⟩,⟨none,[3,10],[]⟩] 10 12 mixed rfl rfl (by decide) ?_
 simp only [go_sem,dx]
 refine ny KP (cE _ _ _) trivial ?_
 simp only [go_sem]
 refine ny (DW gO) (by rw [r0];exact cE _ _ _) ⟨dC _,trivial⟩ ?_
 simp only [go_sem]
 refine y0 [11] (Fo ie) ?_ ⟨trivial,⟨dC _,trivial⟩,trivial⟩ (by rw [yX];simp [fM,jM,among,eT]) ?_
 ·simp only [go_sem,rf,rh,r1]
 rw [yX]
 simp only [go_sem,fM,jM,rf,rh,a8,if_false,ft]
 refine ny (DW (ig ie)) (cE _ _ _) ⟨dC _,trivial⟩ ?_
 simp only [go_sem]
 have hN3:aJ Tryz.prog 11 [.ps 4 (syms rN), .ps 1 (cX (nM++[ij gO])), .ps 5 (lits (ij (ig ie)))] (.dz [.bool true, .int .i64 0]):=by
  have:=Qp rN (nM++[ij gO]) (ij (ig ie)) (TP _ (by decide) Fq.1)
  rw [Yrn] at this
  exact this
 have eU3:cX (nM++[ij gO])=[.ps 5 [.agg [.bool false, .int .i64 (ig gO).head, .ps 2 ((ig gO).args.map Tm.aO), .int .i64 gO.head, .ps 2 (gO.args.map Tm.aO)]], .ps 5 (lits (ij gO))]:=rfl
 refine y0 [3,10] hN3 ?_ ⟨dK _,fe _,cr _,trivial⟩ (by rw [IK,if_pos rfl];exact zC _ _ _) ?_
 ·simp only [go_sem,rf,rh,eU3]
 rw [IK,if_pos rfl,EP]
 simp only [go_sem]
 refine aK.go 1000 ?_
 simp only [go_sem]
 have fF:Dv (ij ie):=fun l hl=>by
  rw [aN.1 hl];exact ⟨by decide,by decide⟩
 have hE:=Ztq (ij ie) (ij ie) fF fF (by decide)
 rw [(Ld _ _).2 rfl] at hE
 have hI:=Yqf [0] [0] (by decide)
 rw [decide_eq_true rfl] at hI
 refine aK.draw [.no, .no, .no, .no, .no, .no, .no, .no, .no, .no, .no,⟨none,[],[12]⟩,⟨none,[],[12]⟩,⟨some 12,[12],[]⟩] 12 13 mixed rfl rfl (by decide) ?_
 simp only [go_sem,dx]
 refine ny (DW ie) (by rw [r1];exact cE _ _ _) ⟨dC _,trivial⟩ ?_
 simp only [go_sem]
 refine ny hE (cE _ _ _) ⟨cr _,cr _,trivial⟩ ?_
 simp only [go_sem]
 have UK:bO (.bool true)=true:=rfl
 refine y0 [12] hI ?_ ⟨du _,du _,trivial⟩ (by rw [UK,if_pos rfl];exact zC _ _ _) ?_
 ·have e0:ints [0]=[.int .i64 0]:=rfl
  simp only [go_sem,rf,rh,e0]
 rw [UK,if_pos rfl,EP]
 simp only [go_sem,beq_self_eq_true]
 refine aK.go 1000 ?_
 simp only [go_sem]
theorem Ymg {g:List Sy} {es:List (List Li)} {c:List Li} (h:rU g es c=true):oM es=true∧pw c=true∧nQ c=true∧(∀ r∈es,nQ r=true∧pw r=true):=by
 unfold rU at h
 split at h
 ·cases h
 ·rename_i hb
  simp only [aD] at h
  obtain ⟨⟨⟨h1,h2⟩,h3⟩,h4⟩:=h
  refine ⟨h2,h3,h4,fun r hr=>?_⟩
  have hn:¬ pg r=true:=fun k=>hb ⟨(LB h2).1,dM.2 ⟨r,hr,k⟩⟩
  unfold pg at hn
  simpa using hn
theorem Jn {g:List Sy} {d:List Li} (hd:j4 g d):j4 g (sK d):=by
 obtain ⟨h1,h2,h3⟩:=Ps hd
 rw [h3];exact Yst h1 hd h2
theorem Tf {g:List Sy} {c d:List Li} (hc:j4 g c) (hd:j4 g d):jl c (sK d)=(pS c d,0):=by
 obtain ⟨h1,h2,h3⟩:=Ps hd
 rw [KF hc (Jn hd),h3,Yq6 h1 (OS hd h2)]
theorem Yxs {g:List Sy} {es:List (List Li)} {c:List Li} (h:sG es c):(gM g es c).2≠0∨((gM g es c).2=0∧(gM g es c).1.gone=1∧(gM g es c).1.pV = -1) ∨
  ((gM g es c).2=0∧(((gM g es c).1.gone=0∧(gM g es c).1.pV = -1)∨((gM g es c).1.gone=2∧∃ k:Nat,(gM g es c).1.pV=k∧k<es.length))∧(∀ r∈es,kN r)∧kN (gM g es c).1.d ∧
   ∀ i (hi:i<es.length),(jl es[i] (gM g es c).1.d).2=0∧((jl es[i] (gM g es c).1.d).1=true→0≤(gM g es c).1.pV∧(gM g es c).1.pV≤i)∧((i:Int)=(gM g es c).1.pV→(jl es[i] (gM g es c).1.d).1=true)):=by
 rcases Zzo (g:=g) h with ⟨h1,h2⟩ | ⟨hw,n,X,hI,⟨q1,e⟩ | ⟨q1,q2,e⟩ | ⟨q1,q2,q3,q4,k,q5,e⟩ | ⟨q1,q2,q3,q4,q5,e⟩⟩
 ·rw [h2];exact .inl h1
 ·rw [e];exact .inr (.inl ⟨rfl,rfl,rfl⟩)
 ·rw [e];exact .inl q2
 ·rw [e]
  obtain ⟨i,hi,p1,p2,p3,p4⟩:=Ri q5
  have hk:k=i:=by omega
  subst hk
  refine .inr (.inr ⟨rfl, .inr ⟨rfl,k,rfl,hi⟩,fun r hr=>zV (Cj h hw r hr),zV (Jn hI.rt),fun j hj=>?_⟩)
  have hr:=Cj h hw _ (aE hj)
  have e1:=KF hr hI.rt
  simp only
  rw [Tf hr hI.rt]
  refine ⟨rfl,fun hs=>⟨by omega,?_⟩,fun I1=>?_⟩
  ·by_cases bD:j<k
   ·exfalso
    apply p4 j bD
    rw [e1];exact ⟨rfl,hs⟩
   ·omega
  ·have:j=k:=by omega
   subst this
   rw [e1] at p3;exact p3
 ·rw [e]
  refine .inr (.inr ⟨rfl, .inl ⟨rfl,rfl⟩,fun r hr=>zV (Cj h hw r hr),zV (Jn hI.rt),fun j hj=>?_⟩)
  have hr:=Cj h hw _ (aE hj)
  have e1:=KF hr hI.rt
  have hn:=QW q5 _ (aE hj)
  simp only
  rw [Tf hr hI.rt]
  refine ⟨rfl,fun hs=>?_,fun I1=>by omega⟩
  exfalso
  apply hn
  rw [e1];exact ⟨rfl,hs⟩
set_option maxHeartbeats 1000000 in
theorem Zln (g:List Sy) (es:List (List Li)) (c:List Li) (f1:∀ x∈es,py x) (f2:py c) (gK:c.length≤2600000000000) {W:World} {vs:Array Value}
  (h2:vs.size=([.ps 4 (syms g), .ps 1 (cX es), .ps 5 (lits c)]:List ae).length)
  (h3:∀ k,k<([.ps 4 (syms g), .ps 1 (cX es), .ps 5 (lits c)]:List ae).length→bR W rz r_ (vs.getD k undef) (([.ps 4 (syms g), .ps 1 (cX es), .ps 5 (lits c)]:List ae).getD k .undef)) :
  Calls Tryz.prog 7 vs W fun e w'=>e = .returned (.bool true)∧RowKit.Below W.heap.size W w':=by
 refine Zzz (args:=[.ps 4 (syms g), .ps 1 (cX es), .ps 5 (lits c)]) (rs:=[.tmp 6]) (m:=100) 1000 Tryz.func7 rfl rfl rfl rfl ?_ (fun x hx=>by cases hx) h2 h3
 clear h2 h3
 simp only [go_sem]
 refine aq.bU [] (Zv g es c gK) (cE _ _ _) (by simp [go_sem,dK,fe,cr]) ?_;simp only [bO,bX,bW,if_true];refine aK.go 1000 ?_
 cases Mz:rU g es c with
 | false=>simp only [go_sem]
 | true =>
 obtain ⟨he,hc,alT,hr⟩:=Ymg Mz
 have fp:=Yy1 he hc f1 f2
 have hle:=(LB he).1
 have hF:=LI g es c fp
 have hW:=Yxs (g:=g) fp
 generalize gM g es c=z at *
 obtain ⟨⟨d,u,gn,wh⟩,e⟩:=z
 unfold Si.aO at hF
 simp only at hW
 simp only [go_sem]
 refine aq.bU [] hF (cE _ _ _) ⟨dK _,fe _,cr _,trivial⟩ ?_
 rw [jb];simp only [ite_self]
 refine aK.go 1000 ?_
 rcases hW with h0 | ⟨rfl,rfl,rfl⟩ | ⟨rfl,U9,Aj,hd9,eK⟩
 ·simp only [go_sem,h0]
  refine aq.bU [] (JW) (cE _ _ _) (by simp [go_sem, ]) ?_;simp only [bO,bX,bW,if_true];refine aK.go 1000 ?_
  simp only [go_sem,h0]
 ·simp only [go_sem]
  refine aq.bU [] (JW) (cE _ _ _) (by simp [go_sem, ]) ?_;simp only [bO,bX,bW,if_true];refine aK.go 1000 ?_
  simp only [go_sem]
 ·have hwh : -1≤wh∧wh<es.length∧(0≤wh↔gn=2)∧gn≠1:=by
   rcases U9 with ⟨rfl,rfl⟩ | ⟨rfl,k,rfl,hk⟩
   ·exact ⟨by omega,by omega,by omega,by omega⟩
   ·exact ⟨by omega,by omega,by omega,by omega⟩
  obtain ⟨w1,w2,w3,w4⟩:=hwh
  have n1:¬ wh < -1:=by omega
  have n2:¬ (es.length:Int)≤wh:=by omega
  have n3:(decide (0≤wh)==decide (gn=2))=true:=by
   by_cases k : 0≤wh
   ·simp [k,w3.1 k]
   ·have:¬ gn=2:=fun e=>k (w3.2 e)
    simp [k,this]
  clear U9
  simp only [go_sem,w4,n1,n2,n3,mH]
  refine aK.c_ (ι:={i:Nat // i≤es.length}) 1000 (fun q=>fG 103 [(1, .ps 1 (cX es)),(7, .ptr 0 0),(9, .int .i64 q.1)])
   (fun _=>[some (.var [.ps 5 (lits d), .ps 1 (ints u), .int .i64 gn, .int .i64 wh])]) (fun q=>es.length - q.1) ⟨0,av _⟩ ?_ (fun _=>av _) ?_
  ·simp only [go_sem,fe,cr,du]
  ·rintro ⟨i,hi⟩
   by_cases bD:(i:Int)<es.length
   ·have aZ:i<es.length:=by omega
    have hw:IntKind.i64.wrap ((i:Int)+1)=((i+1:Nat):Int):=by rw [ek (by omega)];omega
    have g1:=y5 aZ
    obtain ⟨a1,a2,a3⟩:=eK i aZ
    have hS:=Uz es[i] d (Aj _ (aE aZ)) hd9
    generalize es[i]=r at *
    generalize jl r d=y at *
    obtain ⟨y1,y2⟩:=y
    simp only at a1 a2 a3
    subst a1
    simp only [go_sem,mH,bD]
    refine aK.draw [] 1 1 mixed rfl rfl (by decide) ?_
    simp only [go_sem,dx,mH,bD,g1]
    (repeat ((with_reducible refine And.intro ?_ ?_); ·omega))
    refine ny hS (cE _ _ _) ⟨cr _,cr _,trivial⟩ ?_
    simp only [go_sem]
    refine aK.go 1000 ?_
    cases y1 with
    | true =>
     obtain ⟨b1,b2⟩:=a2 rfl
     have m1:¬ wh<0:=by omega
     have m2:¬ (i:Int)<wh:=by omega
     by_cases m3:(i:Int)=wh
     ·subst m3
      simp only [go_sem,m1,m2,hw]
      refine ⟨⟨i+1,by omega⟩,?_,by simp only;omega⟩
      simp only [go_sem,fe,cr,du]
     ·simp only [go_sem,m1,m2,m3,hw]
      refine ⟨⟨i+1,by omega⟩,?_,by simp only;omega⟩
      simp only [go_sem,fe,cr,du]
    | false =>
     have m3:¬ (i:Int)=wh:=fun e=>by have:=a3 e;cases this
     simp only [go_sem,m3,hw]
     refine ⟨⟨i+1,by omega⟩,?_,by simp only;omega⟩
     simp only [go_sem,fe,cr,du]
   ·simp only [go_sem,mH,bD]
    refine aK.go 1000 ?_
    simp only [go_sem]
    refine aq.bU [] (JW) (cE _ _ _) (by simp [go_sem, ]) ?_;simp only [bO,bX,bW,if_true];refine aK.go 1000 ?_
    simp only [go_sem]
end Go.Proofs
