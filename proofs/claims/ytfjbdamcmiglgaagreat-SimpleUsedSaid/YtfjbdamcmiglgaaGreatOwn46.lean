/- Part 46 of my own framework and of the walks of functions: Ya, Yb, Yc, Yd, Za, Ye, Yf, Yg, Yh, Yi, Vf, Yj, Zb, Zc, Zd, Ba, Bb, Bd, Be, Ca, Cb, Cc, Cd, Ce, AcsZb, Cf, Cg, Ch, Ci, Cj, Ck, Cl, Cm, Cn, Co, Cp, Cq, Cr, Da. -/
import Derived.Test.YtfjbdamcmiglgaaGreatOwn45
abbrev jA:=@Decidable.byContradiction
abbrev o_:=@List.drop_of_length_le
abbrev iP:=@List.idxOf_lt_length_of_mem
abbrev mL:=@List.length_eraseIdx_of_lt
abbrev lh:=@List.mem_append_right
abbrev oI:=@List.mem_flatMap
abbrev n9:=@List.mem_of_mem_eraseIdx
abbrev jc:=@Nat.one_lt_two
set_option linter.unusedVariables false
set_option linter.unusedSectionVars false
set_option linter.unusedSimpArgs false
namespace Go.Proofs
open Go Go.cV
theorem TC (h k s:Int):∀ l:List (Int×Int),fB (la l k s) h=fB l h+if h=k then s else 0
 | []=>by
  simp only [la,fB]
  by_cases e:h=k
  ·rw [if_pos e.symm,if_pos e];omega
  ·rw [if_neg (fY e),if_neg e];rfl
 | x :: r=>by
  have ih:=TC h k s r
  simp only [la]
  split
  ·rename_i e
   simp only [fB]
   by_cases e2:x.1=h
   ·rw [if_pos e2,if_pos e2,if_pos (by omega)]
   ·rw [if_neg e2,if_neg e2,if_neg (by omega)];omega
  ·rename_i e
   simp only [fB]
   by_cases e2:x.1=h
   ·rw [if_pos e2,if_pos e2,if_neg (by omega)];omega
   ·rw [if_neg e2,if_neg e2,ih]
theorem KY (k s:Int):∀ (l:List (Int×Int)) (h:Int),h∈(la l k s).map Prod.fst↔h=k∨h∈l.map Prod.fst
 | [],h=>by simp [la]
 | x :: r,h=>by
  have ih:=KY k s r h
  simp only [la]
  split
  ·rename_i e
   simp only [aI,aP]
   rw [← e];constructor
   ·rintro (h1 | h1);exact .inl h1;exact .inr (.inr h1)
   ·rintro (h1 | h1 | h1);exact .inl h1;exact .inl h1;exact .inr h1
  ·simp only [aI,aP,ih]
   constructor
   ·rintro (h1 | h1 | h1);exact .inr (.inl h1);exact .inl h1;exact .inr (.inr h1)
   ·rintro (h1 | h1 | h1);exact .inr (.inl h1);exact .inl h1;exact .inr (.inr h1)
theorem S4 (k s:Int):∀ (l:List (Int×Int)),(l.map Prod.fst).Nodup→((la l k s).map Prod.fst).Nodup
 | [],_=>by simp [la]
 | x :: r,h=>by
  simp only [aI,eh] at h
  simp only [la]
  split
  ·rename_i e
   simp only [aI,eh]
   exact h
  ·rename_i e
   simp only [aI,eh]
   refine ⟨fun hm=>?_,S4 k s r h.2⟩
   rcases (KY k s r x.1).1 hm with h1 | h1
   ·exact e h1
   ·exact h.1 h1
def vR (l:List (Int×Int)):Prop:=(l.map Prod.fst).Nodup∧∀ h∈l.map Prod.fst,h<0
theorem Uj {l:List (Int×Int)}:∀ (_:(l.map Prod.fst).Nodup) (x:Int×Int),x∈l→fB l x.1=x.2:=by
 induction l with
 | nil=>intro _ x h;cases h
 | cons a l ih =>
  intro hn x hx
  simp only [aI,eh] at hn
  simp only [fB]
  rcases aP.1 hx with rfl | hx
  ·rw [if_pos rfl]
  ·rw [if_neg (fun e:a.1=x.1=>hn.1 (by rw [e];exact mo hx))]
   exact ih hn.2 x hx
theorem Y0 {l:List (Int×Int)} {h:Int}:h ∉ l.map Prod.fst→fB l h=0:=by
 induction l with
 | nil=>intro _;rfl
 | cons a l ih =>
  intro hn
  simp only [aI,aP,not_or] at hn
  simp only [fB]
  rw [if_neg (fY hn.1)]
  exact ih hn.2
theorem Uz {l:List (Int×Int)} (hl:vR l) (p:Int→Bool) (hp:p 0=false):(l.map Prod.snd).any p=true↔∃ h,h<0∧p (fB l h)=true:=by
 rw [er]
 constructor
 ·rintro ⟨y,hy,hpy⟩
  obtain ⟨x,hx,rfl⟩:=bW.1 hy
  exact ⟨x.1,hl.2 _ (mo hx),by rw [Uj hl.1 x hx];exact hpy⟩
 ·rintro ⟨h,_,Np⟩
  by_cases hm:h∈l.map Prod.fst
  ·obtain ⟨x,hx,rfl⟩:=bW.1 hm
   exact ⟨x.2,mo hx,by rw [← Uj hl.1 x hx];exact Np⟩
  ·rw [Y0 hm,hp] at Np;cases Np
mutual
theorem KR (g:List Sy) (s:Int):∀ (t:Tm) (x:Int×List (Int×Int)),t.good=true→vR x.2→(rS g s t x).1=x.1+s*t.mj g∧vR (rS g s t x).2∧∀ h,h<0→fB (rS g s t x).2 h=fB x.2 h+s*(t.cv (-1 - h):Int)
 | .mk k ts,x,hg,hx=>by
  obtain ⟨g1,g2,g3,g4⟩:=zO hg
  simp only [Tm.head,Tm.args] at g1 g2 g3 g4
  rw [rS,Tm.mj]
  by_cases hn:k<0
  ·rw [if_pos hn,if_pos hn]
   have rG:=g4 hn
   refine ⟨by simp only;omega,⟨S4 k s _ hx.1,fun h hm=>?_⟩,fun h hh=>?_⟩
   ·rcases (KY k s _ h).1 hm with rfl | hm
    ·exact hn
    ·exact hx.2 h hm
   ·simp only
    rw [TC,Tm.cv,rG,Tm.Bp]
    by_cases e:h=k
    ·rw [if_pos e,if_pos (by omega)];simp
    ·rw [if_neg e,if_neg (by omega)];simp
  ·rw [if_neg hn,if_neg hn]
   have BB:Tm.fT ts=true:=by rw [Tm.good,aD] at hg;exact hg.2
   obtain ⟨a1,a2,a3⟩:=RS g s ts (x.1+s*nu g k,x.2) BB hx
   refine ⟨?_,a2,fun h hh=>?_⟩
   ·rw [a1]
    have:=Ld g ts 0 (nu g k)
    rw [Int.zero_add] at this
    rw [this,Int.mul_add]
    simp only;omega
   ·rw [a3 h hh,Tm.cv,if_neg (by omega),bm]
theorem RS (g:List Sy) (s:Int):∀ (ts:List Tm) (x:Int×List (Int×Int)),Tm.fT ts=true→vR x.2→(ov g s ts x).1=x.1+s*Tm.pR g ts 0∧vR (ov g s ts x).2∧∀ h,h<0→fB (ov g s ts x).2 h=fB x.2 h+s*(Tm.Bp (-1 - h) ts:Int)
 | [],x,_,hx=>by
  rw [ov]
  exact ⟨by simp [Tm.pR],hx,fun h _=>by simp [Tm.Bp]⟩
 | t :: ts,x,hg,hx=>by
  rw [Tm.fT,aD] at hg
  rw [ov]
  obtain ⟨a1,a2,a3⟩:=KR g s t x hg.1 hx
  obtain ⟨b1,b2,b3⟩:=RS g s ts _ hg.2 a2
  refine ⟨?_,b2,fun h hh=>?_⟩
  ·rw [b1,a1,Tm.pR]
   have:=Ld g ts 0 (t.mj g)
   rw [this,Int.mul_add];omega
  ·rw [b3 h hh,a3 h hh,Tm.Bp]
   push_cast
   rw [Int.mul_add];omega
end
theorem K2 (g:List Sy) {t u:Tm} (ht:t.good=true) (hu:u.good=true):(nL g t u).1=t.mj g - u.mj g∧vR (nL g t u).2∧∀ h,h<0→fB (nL g t u).2 h=(t.cv (-1 - h):Int) - u.cv (-1 - h):=by
 have h0:vR ([]:List (Int×Int)):=⟨by simp,fun h hh=>by simp at hh⟩
 obtain ⟨a1,a2,a3⟩:=KR g 1 t (0,[]) ht h0
 obtain ⟨b1,b2,b3⟩:=KR g (-1) u _ hu a2
 unfold nL
 refine ⟨by rw [b1,a1];simp only;omega,b2,fun h hh=>?_⟩
 rw [b3 h hh,a3 h hh]
 simp only [fB];omega
mutual
theorem Ph {v:Int} (hv : 0≤v):∀ t:Tm,t.iG (fun w=>w≠v)→t.cv v=0
 | .mk h ts,ha=>by
  rw [Tm.cv,TL hv ts ha.2]
  by_cases e:h = -1 - v
  ·exact absurd (by omega) (ha.1 (by omega))
  ·rw [if_neg e]
theorem TL {v:Int} (hv : 0≤v):∀ ts:List Tm,Tm.je (fun w=>w≠v) ts→Tm.Bp v ts=0
 | [],_=>rfl
 | t :: ts,ha=>by rw [Tm.Bp,Ph hv t ha.1,TL hv ts ha.2]
end
theorem Yxf {v:Int} (hv : 0≤v) {t:Tm} (h:v ∉ t.vars):t.cv v=0 :=
 Ph hv t ((Eb t).1 fun w hw e=>h (e ▸ hw))
theorem Km (a b:Tm):gp a b=true↔∀ v,0≤v→b.cv v≤a.cv v:=by
 unfold gp
 rw [bp]
 constructor
 ·intro h v hv
  by_cases hm:v∈b.vars
  ·exact of_decide_eq_true (h v hm)
  ·rw [Yxf hv hm];exact av _
 ·intro h v hm
  exact decide_eq_true (h v (Zu4 b v hm))
theorem Zyg {g:List Sy} {t u:Tm} (ht:t.good=true) (hu:u.good=true):(((nL g t u).2.map Prod.snd).any fun n=>decide (n<0)) = !gp t u:=by
 obtain ⟨_,h2,h3⟩:=K2 g ht hu
 have h:=Uz h2 (fun n=>decide (n<0)) rfl
 rw [fp,h,bT,← dj,Km]
 constructor
 ·rintro ⟨k,hk,hp⟩ eX
  have:=eX (-1 - k) (by omega)
  have hp:=of_decide_eq_true hp
  rw [h3 k hk] at hp
  omega
 ·intro hn
  obtain ⟨v,hv⟩:=Classical.not_forall.1 hn
  obtain ⟨NK,EF⟩:=Classical.not_imp.1 hv
  refine ⟨-1 - v,by omega,decide_eq_true ?_⟩
  rw [h3 _ (by omega),show -1 - (-1 - v)=v by omega]
  omega
theorem Zyh {g:List Sy} {t u:Tm} (ht:t.good=true) (hu:u.good=true):(((nL g t u).2.map Prod.snd).any fun n=>decide (0<n)) = !gp u t:=by
 obtain ⟨_,h2,h3⟩:=K2 g ht hu
 have h:=Uz h2 (fun n=>decide (0<n)) rfl
 rw [fp,h,bT,← dj,Km]
 constructor
 ·rintro ⟨k,hk,hp⟩ eX
  have:=eX (-1 - k) (by omega)
  have hp:=of_decide_eq_true hp
  rw [h3 k hk] at hp
  omega
 ·intro hn
  obtain ⟨v,hv⟩:=Classical.not_forall.1 hn
  obtain ⟨NK,EF⟩:=Classical.not_imp.1 hv
  refine ⟨-1 - v,by omega,decide_eq_true ?_⟩
  rw [h3 _ (by omega),show -1 - (-1 - v)=v by omega]
  omega
theorem PE {g:List Sy} {t u:Tm} (ht:t.good=true) (hu:u.good=true) (n:Int):tB (nL g t u) n=mE n (!gp u t) (!gp t u):=by
 unfold tB;rw [Zyg ht hu,Zyh ht hu]
theorem JJ {g:List Sy} {t u:Tm} (ht:t.good=true) (hu:u.good=true) {n:Int}:tB (nL g t u) n=1↔0<n∧gp t u=true:=by
 rw [PE ht hu];unfold mE
 by_cases h1 : 0<n∧(!gp t u)=false
 ·rw [if_pos h1];simpa using h1
 ·rw [if_neg h1]
  simp only [iw] at h1
  split<;>(constructor<;>intro h<;>first | omega | exact absurd h h1)
theorem JG {g:List Sy} {t u:Tm} (ht:t.good=true) (hu:u.good=true) {n:Int}:tB (nL g t u) n = -1↔n<0∧gp u t=true:=by
 rw [PE ht hu];unfold mE
 by_cases h1 : 0<n∧(!gp t u)=false
 ·rw [if_pos h1]
  constructor
  ·intro h;omega
  ·intro h;omega
 ·rw [if_neg h1]
  by_cases h2:n<0∧(!gp u t)=false
  ·rw [if_pos h2];simpa using h2
  ·rw [if_neg h2]
   simp only [iw] at h2
   constructor
   ·intro h;omega
   ·intro h;exact absurd h h2
theorem Jx (x:Int×List (Int×Int)) (n:Int):tB x n≠0:=by
 unfold tB mE
 split
 ·omega
 split<;>omega
theorem SZ (g:List Sy) (t u:Tm):dS g t u=if t=u then 0 else if (nL g t u).1≠0 then tB (nL g t u) (nL g t u).1 else
  if t.head<0∨u.head<0 then 2 else if t.head≠u.head then tB (nL g t u) (t.head - u.head) else gq g (nL g t u) t.args u.args:=by
 cases t;rw [dS];rfl
theorem JH (g:List Sy) (t u:Tm):t.gr g u=if gp t u=false then false else if t.mj g≠u.mj g then decide (u.mj g<t.mj g) else if t.head<0∨u.head<0 then false else if t.head≠u.head then decide (u.head<t.head) else Tm.rO g t.args u.args:=by
 cases t;rw [Tm.gr];rfl
theorem JD {t u:Tm} (h1:t.head=u.head) (h2:t.args=u.args):t=u:=by
 cases t;cases u;simp only [Tm.head,Tm.args] at h1 h2;rw [h1,h2]
theorem KM (x:Int×List (Int×Int)) (n:Int):tB x n=1∨tB x n = -1∨tB x n=2:=by
 unfold tB mE
 split
 ·exact .inl rfl
 split
 ·exact .inr (.inl rfl)
 ·exact .inr (.inr rfl)
theorem QM (g:List Sy) (x:Int×List (Int×Int)):∀ ts us:List Tm,gq g x ts us=0∨gq g x ts us=1∨gq g x ts us = -1∨gq g x ts us=2
 | [],_=>by rw [gq];simp
 | _ :: _,[]=>by rw [gq];simp
 | t :: ts,u :: us=>by
  rw [gq]
  split
  ·split
   ·exact .inr (.inr (.inr rfl))
   ·exact .inr (KM _ _)
  ·exact QM g x ts us
theorem Rj (g:List Sy) (t u:Tm):dS g t u=0∨dS g t u=1∨dS g t u = -1∨dS g t u=2:=by
 rw [SZ]
 split
 ·exact .inl rfl
 split
 ·exact .inr (KM _ _)
 split
 ·exact .inr (.inr (.inr rfl))
 split
 ·exact .inr (KM _ _)
 ·exact QM _ _ _ _
def agree (g:List Sy) (t u:Tm):Prop:=(dS g t u=1↔t.gr g u=true)∧(dS g t u = -1↔u.gr g t=true)∧(dS g t u=0↔t=u)
theorem Qg {g:List Sy} {x y:Tm} (hx:x.good=true) (hy:y.good=true):∀ (ts us:List Tm),ts.length=us.length→(∀ t∈ts, ∀ u∈us,agree g t u) →
  (gq g (nL g x y) ts us=1↔Tm.rO g ts us=true∧gp x y=true)∧(gq g (nL g x y) ts us = -1↔Tm.rO g us ts=true∧gp y x=true)∧(gq g (nL g x y) ts us=0↔ts=us)
 | [],[],_,_=>by
  rw [gq,Tm.rO]
  exact ⟨⟨fun h=>by omega,fun h=>by cases h.1⟩,⟨fun h=>by omega,fun h=>by cases h.1⟩,by simp⟩
 | t :: ts,u :: us,hl,h=>by
  obtain ⟨a1,a2,a3⟩:=h t (by simp) u (by simp)
  have ih:=Qg hx hy ts us (by simpa using hl) (fun a ha b hb=>h a (by simp [ha]) b (by simp [hb]))
  rw [gq,Tm.rO,Tm.rO]
  by_cases e:t=u
  ·rw [if_neg (fun hn=>hn (a3.2 e)),if_pos e,if_pos e.symm]
   refine ⟨ih.1,ih.2.1,?_⟩
   rw [ih.2.2,e];simp
  ·have dX:dS g t u≠0:=fun h0=>e (a3.1 h0)
   rw [if_pos dX,if_neg e,if_neg (fY e)]
   by_cases h2:dS g t u=2
   ·rw [if_pos h2]
    refine ⟨⟨fun h=>by omega,fun h=>?_⟩,⟨fun h=>by omega,fun h=>?_⟩,⟨fun h=>by omega,fun h=>?_⟩⟩
    ·have:=a1.2 h.1;omega
    ·have:=a2.2 h.1;omega
    ·exact absurd (jT h).1 e
   ·rw [if_neg h2]
    refine ⟨?_,?_,⟨fun h=>absurd h (Jx _ _),fun h=>absurd (jT h).1 e⟩⟩
    ·rw [JJ hx hy,← a1]
     constructor
     ·rintro ⟨h3,h4⟩
      refine ⟨?_,h4⟩
      rcases Rj g t u with h5 | h5 | h5 | h5<;>omega
     ·rintro ⟨h3,h4⟩;exact ⟨by omega,h4⟩
    ·rw [JG hx hy,← a2]
     constructor
     ·rintro ⟨h3,h4⟩
      refine ⟨?_,h4⟩
      rcases Rj g t u with h5 | h5 | h5 | h5<;>omega
     ·rintro ⟨h3,h4⟩;exact ⟨by omega,h4⟩
def xo (g:List Sy) (t u:Tm):Bool:=if t.mj g≠u.mj g then decide (u.mj g<t.mj g) else if t.head<0∨u.head<0 then false else if t.head≠u.head then decide (u.head<t.head) else Tm.rO g t.args u.args
theorem PJ (g:List Sy) (t u:Tm):t.gr g u=(gp t u&&xo g t u):=by
 rw [JH];unfold xo
 cases gp t u<;>simp
theorem KS (g:List Sy):∀ l:List Tm,Tm.rO g l l=false
 | []=>rfl
 | a :: l=>by rw [Tm.rO,if_pos rfl];exact KS g l
theorem Qm (g:List Sy):∀ (n:Nat) (t u:Tm),t.size≤n→jQ g t→jQ g u→agree g t u
 | 0,t,_,h,_,_=>by have:=zM t;omega
 | n+1,t,u,hn,ht,hu=>by
  have gt:=(sE (ph ht.1).1).2.2
  have gu:=(sE (ph hu.1).1).2.2
  have hW:=(K2 g gt gu).1
  unfold agree
  rw [SZ,PJ g t u,PJ g u t]
  by_cases e:t=u
  ·subst e
   rw [if_pos rfl]
   have key:xo g t t=false:=by
    unfold xo
    rw [if_neg (fun h=>h rfl),if_neg (fun h=>h rfl:¬ t.head≠t.head),KS]
    split<;>rfl
   rw [key,gW]
   exact ⟨⟨fun h=>by omega,fun h=>by cases h⟩,⟨fun h=>by omega,fun h=>by cases h⟩,by simp⟩
  ·rw [if_neg e]
   by_cases c1:t.mj g=u.mj g
   ·rw [if_neg (by omega)]
    have r1:xo g t u=if t.head<0∨u.head<0 then false else if t.head≠u.head then decide (u.head<t.head) else Tm.rO g t.args u.args:=by unfold xo;rw [if_neg (fun h=>h c1)]
    have r2:xo g u t=if u.head<0∨t.head<0 then false else if u.head≠t.head then decide (t.head<u.head) else Tm.rO g u.args t.args:=by unfold xo;rw [if_neg (fun h=>h c1.symm)]
    by_cases c2:t.head<0∨u.head<0
    ·rw [if_pos c2] at r1 ⊢
     rw [if_pos c2.symm] at r2
     rw [r1,r2,gW,gW]
     exact ⟨⟨fun h=>by omega,fun h=>by cases h⟩,⟨fun h=>by omega,fun h=>by cases h⟩,⟨fun h=>by omega,fun h=>absurd h e⟩⟩
    ·rw [if_neg c2] at r1 ⊢
     rw [if_neg (fun h=>c2 h.symm)] at r2
     by_cases c3:t.head=u.head
     ·rw [if_neg (fun h=>h c3)] at r1 ⊢
      rw [if_neg (fun h=>h c3.symm)] at r2
      have hl:=Yyf ht hu (by omega) c3
      have hA:=Qg (g:=g) gt gu t.args u.args hl (fun a ha b hb=>Qm g n a b (by have:=tb ha;have:=oA t;omega) (K7 t ht a ha) (K7 u hu b hb))
      rw [r1,r2,aD,aD]
      refine ⟨?_,?_,?_⟩
      ·rw [hA.1];exact And.comm
      ·rw [hA.2.1];exact And.comm
      ·rw [hA.2.2]
       exact ⟨fun h=>JD c3 h,fun h=>absurd h e⟩
     ·rw [if_pos c3] at r1 ⊢
      rw [if_pos (fY c3)] at r2
      rw [r1,r2,aD,aD,decide_eq_true_eq,decide_eq_true_eq]
      refine ⟨?_,?_,⟨fun h=>absurd h (Jx _ _),fun h=>absurd h e⟩⟩
      ·rw [JJ gt gu];exact ⟨fun h=>⟨h.2,by omega⟩,fun h=>⟨by omega,h.1⟩⟩
      ·rw [JG gt gu];exact ⟨fun h=>⟨h.2,by omega⟩,fun h=>⟨by omega,h.1⟩⟩
   ·rw [if_pos (by omega)]
    have r1:xo g t u=decide (u.mj g<t.mj g):=by unfold xo;rw [if_pos c1]
    have r2:xo g u t=decide (t.mj g<u.mj g):=by unfold xo;rw [if_pos (fY c1)]
    rw [r1,r2,aD,aD,decide_eq_true_eq,decide_eq_true_eq]
    refine ⟨?_,?_,⟨fun h=>absurd h (Jx _ _),fun h=>absurd h e⟩⟩
    ·rw [JJ gt gu,hW];exact ⟨fun h=>⟨h.2,by omega⟩,fun h=>⟨by omega,h.1⟩⟩
    ·rw [JG gt gu,hW];exact ⟨fun h=>⟨h.2,by omega⟩,fun h=>⟨by omega,h.1⟩⟩
theorem Ue {g:List Sy} {t u:Tm} (ht:jQ g t) (hu:jQ g u):decide (dS g t u=1)=t.gr g u:=by
 have:=(Qm g _ t u (ah _) ht hu).1
 rw [fp,decide_eq_true_eq];exact this
section
variable {α:Type} (same : α→α→Bool)
def wA (x : α):List α→Option (List α)
 | []=>none
 | y :: b=>if same x y=true then some b else (wA x b).map (y :: ·)
def dz:List α→List α→List α
 | [],_=>[]
 | x :: a,b=>match wA same x b with
  | none=>x :: dz a b
  | some b'=>dz a b'
def lj:List α→List Bool→List α
 | y :: b,u :: us=>if u=true then lj b us else y :: lj b us
 | _,_=>[]
theorem OH (y : α) (b:List α) (us:List Bool):lj (y :: b) (false :: us)=y :: lj b us:=by rw [lj];exact if_neg (by simp)
theorem Sf:∀ b:List α,lj b (List.replicate b.length false)=b
 | []=>rfl
 | y :: b=>by rw [au,fw,lj,if_neg (by simp),Sf b]
def CH (x : α):List α→List Bool→Nat→Option Nat
 | y :: b,u :: us,k=>if (!u&&same x y)=true then some k else CH x b us (k+1)
 | _,_,_=>none
theorem PO {b0:List α} {DN:List Bool} (hl:DN.length=b0.length) (x : α):∀ (n k:Nat),b0.length - k=n→k≤b0.length→fk (Jp same b0 DN x) n k=CH same x (b0.drop k) (DN.drop k) k
 | 0,k,h,hk=>by
  have:k=b0.length:=by omega
  subst this
  rw [fk,aV]
  cases DN.drop b0.length<;>rfl
 | n+1,k,h,hk=>by
  have h1:k<b0.length:=by omega
  have h2:k<DN.length:=by omega
  have hg:DN.getD k false=DN[k]:=by simp [List.getD,h2]
  rw [fk,Yvm h1,hg,ak h1,ak h2,CH,PO hl x n (k+1) (by omega) (by omega)]
theorem PC (x : α):∀ (b:List α) (us:List Bool) (k:Nat),us.length=b.length→(CH same x b us k=none→wA same x (lj b us)=none)∧∀ j,CH same x b us k=some j→k≤j∧wA same x (lj b us)=some (lj b (us.set (j - k) true))
 | [],us,k,_=>by
  cases us<;>exact ⟨fun _=>rfl,fun j h=>by cases h⟩
 | y :: b,[],k,h=>by simp at h
 | y :: b,u :: us,k,h=>by
  obtain ⟨i1,i2⟩:=PC x b us (k+1) (by simpa using h)
  rw [CH]
  cases u with
  | true =>
   simp only [Bool.not_true,db,a8,if_false]
   rw [lj,if_pos rfl]
   refine ⟨i1,fun j hj=>?_⟩
   obtain ⟨j1,j2⟩:=i2 j hj
   refine ⟨by omega,?_⟩
   rw [j2,show j - k=(j - (k+1))+1 by omega,cZ,lj,if_pos rfl]
  | false =>
   simp only [Bool.not_false,cu]
   rw [OH,wA]
   cases hs:same x y with
   | true =>
    simp only [if_true]
    refine ⟨fun h=>(by cases h),fun j hj=>?_⟩
    cases hj
    refine ⟨ah _,?_⟩
    rw [ei,df,lj,if_pos rfl]
   | false =>
    simp only [a8,if_false]
    refine ⟨fun h=>by rw [i1 h];rfl,fun j hj=>?_⟩
    obtain ⟨j1,j2⟩:=i2 j hj
    refine ⟨by omega,?_⟩
    rw [j2,show j - k=(j - (k+1))+1 by omega,cZ,OH];rfl
theorem LO (b0:List α):∀ (a:List α) (us:List Bool),us.length=b0.length→xB same b0 a us=dz same a (lj b0 us)
 | [],_,_=>by rw [xB,dz]
 | x :: a,us,hl=>by
  rw [xB,dz]
  have e1:=PO same hl x b0.length 0 (by omega) (av _)
  rw [dk,dk] at e1
  obtain ⟨h1,h2⟩:=PC same x b0 us 0 hl
  rw [e1]
  cases hf:CH same x b0 us 0 with
  | none=>rw [h1 hf];simp only;rw [LO b0 a us hl]
  | some k =>
   rw [(h2 k hf).2]
   simp only [gE]
   rw [LO b0 a (us.set k true) (by rw [bh];exact hl)]
theorem Bg (a b:List α):xB same b a (List.replicate b.length false)=dz same a b:=by
 rw [LO same b a _ (by simp),Sf]
theorem Ju (x : α):∀ (b:List α) (n:Int),0≤n→(dH (fun y=>same x y) b n<0→wA same x b=none)∧(¬ dH (fun y=>same x y) b n<0→n≤dH (fun y=>same x y) b n∧wA same x b=some (b.take (dH (fun y=>same x y) b n - n).toNat++b.drop ((dH (fun y=>same x y) b n - n).toNat+1)))
 | [],n,_=>by rw [dH];exact ⟨fun _=>rfl,fun h=>by omega⟩
 | y :: b,n,hn=>by
  obtain ⟨i1,i2⟩:=Ju x b (n+1) (by omega)
  rw [dH,wA]
  cases hs:same x y with
  | true =>
   simp only [if_true]
   refine ⟨fun h=>by omega,fun _=>⟨qx _,?_⟩⟩
   rw [Int.sub_self];rfl
  | false =>
   simp only [a8,if_false]
   refine ⟨fun h=>by rw [i1 h];rfl,fun h=>?_⟩
   obtain ⟨j1,j2⟩:=i2 h
   refine ⟨by omega,?_⟩
   rw [j2,show (dH (fun y=>same x y) b (n+1) - n).toNat=(dH (fun y=>same x y) b (n+1) - (n+1)).toNat+1 by omega,eR,List.drop_succ_cons];rfl
end
theorem Ih:∀ a b:List Li,eG a b=dz eV a b
 | [],_=>by rw [eG,dz]
 | x :: a,b=>by
  rw [eG,dz]
  obtain ⟨h1,h2⟩:=Ju eV x b 0 (qx _)
  split
  ·rename_i h;rw [h1 h];simp only;rw [Ih a b]
  ·rename_i h;rw [(h2 h).2,Int.sub_zero];simp only;rw [Ih a];rfl
theorem H8:∀ a b:List Tm,dV a b=dz tX a b
 | [],_=>by rw [dV,dz]
 | x :: a,b=>by
  rw [dV,dz]
  obtain ⟨h1,h2⟩:=Ju tX x b 0 (qx _)
  have he:(fun y=>decide (x=y))=fun y=>tX x y:=rfl
  rw [he]
  split
  ·rename_i h;rw [h1 h];simp only;rw [H8 a b]
  ·rename_i h;rw [(h2 h).2,Int.sub_zero];simp only;rw [H8 a];rfl
theorem D8 {α:Type} (same : α→α→Bool):∀ (a b:List α), ∀ x∈dz same a b,x∈a
 | [],_,x,h=>by rw [dz] at h;cases h
 | y :: a,b,x,h=>by
  rw [dz] at h
  split at h
  ·rcases aP.1 h with rfl | h
   ·simp
   ·exact cq _ (D8 same a b x h)
  ·exact cq _ (D8 same a _ x h)
theorem Sd {α:Type} {f h : α→α→Bool} {a b:List α} (he:∀ x∈a, ∀ y∈b,f x y=h x y):pO f a b=pO h a b:=by
 have:∀ (b:List α),(∀ x∈a, ∀ y∈b,f x y=h x y)→(b.all fun y=>a.any fun x=>f x y)=b.all fun y=>a.any fun x=>h x y:=by
  intro b
  induction b with
  | nil=>intro _;rfl
  | cons y b ih =>
   intro hb
   rw [jS,jS,ih fun x hx z hz=>hb x hx z (by simp [hz])]
   congr 1
   have:∀ l:List α,(∀ x∈l,f x y=h x y)→(l.any fun x=>f x y)=l.any fun x=>h x y:=by
    intro l
    induction l with
    | nil=>intro _;rfl
    | cons z l ihl=>intro hz;rw [fe,fe,hz z (by simp),ihl fun x hx=>hz x (by simp [hx])]
   exact this a fun x hx=>hb x hx y (by simp)
 unfold pO;rw [this b he]
theorem QK {α:Type} (p : α→Bool):∀ b:List α,(!b.any fun y=>!p y)=b.all p
 | []=>rfl
 | y :: b=>by
  rw [fe,jS,← QK p b]
  cases p y<;>simp
theorem Tv {g:List Sy} {a b:List Tm} (ha:∀ x∈a,jQ g x) (hb:∀ x∈b,jQ g x):mD g a b=pO (Tm.gr g) a b:=by
 have h1:mD g a b=pO (fun x y=>decide (dS g x y=1)) a b:=by
  unfold mD pO
  rw [QK (fun y=>tP g a y),Bool.and_comm];rfl
 rw [h1]
 exact Sd fun x hx y hy=>Ue (ha x hx) (hb y hy)
theorem YN {g:List Sy} {a b:List Tm} (ha:∀ x∈a,jQ g x) (hb:∀ x∈b,jQ g x):pM g a b=vJ tX (Tm.gr g) a b:=by
 unfold pM vJ
 have m1:∀ x∈dz tX a b,jQ g x:=fun x hx=>ha x (D8 tX a b x hx)
 have m2:∀ x∈dz tX b a,jQ g x:=fun x hx=>hb x (D8 tX b a x hx)
 rw [H8,H8,Bg,Bg,Tv m1 m2,Tv m2 m1]
theorem Yt4 {g:List Sy} {a b:Li} (ha:a.check g=0) (hb:b.check g=0) (ra:BW g a) (rb:BW g b):zg g a b=decide (AX g a b=1):=by
 unfold zg qf AX
 rw [if_neg (fun h=>h ha),if_neg (fun h=>h hb),YN (OS ra) (OS rb)]
 simp
theorem UR (g:List Sy) (a:List Li):∀ b:List Li,ki g a b=pO (zg g) a b
 | []=>by rw [ki];simp [pO]
 | y :: b=>by
  rw [ki,Yli,UR g a b]
  cases a.any fun x=>zg g x y<;>simp
theorem T9 {g:List Sy} {a b:List Li} (ha:∀ x∈a,x.check g=0∧BW g x) (hb:∀ x∈b,x.check g=0∧BW g x):ki g a b=pO (fun x y=>decide (AX g x y=1)) a b:=by
 rw [UR]
 exact Sd fun x hx y hy=>Yt4 (ha x hx).1 (hb y hy).1 (ha x hx).2 (hb y hy).2
theorem Oj {g:List Sy} {c:List Li} (h:kN g c):∀ x∈c,x.check g=0∧BW g x:=fun x hx=>⟨(zG h.1).2.2 x hx,uP h hx⟩
theorem Yp2 {g:List Sy} {a b:List Li} (ha:kN g a) (hb:kN g b):oL g a b=(uE g a b,0):=by
 unfold oL uE vJ
 have m1:∀ x∈dz eV a b,x.check g=0∧BW g x:=fun x hx=>Oj ha x (D8 eV a b x hx)
 have m2:∀ x∈dz eV b a,x.check g=0∧BW g x:=fun x hx=>Oj hb x (D8 eV b a x hx)
 rw [if_neg (fun h=>h ha.1),if_neg (fun h=>h hb.1),Ih,Ih,Bg,Bg,T9 m1 m2,T9 m2 m1]
 split
 ·rfl
 split
 ·rfl
 split
 ·rfl
 ·rfl
section
variable {α:Type}
def dQ (same : α→α→Bool) (x : α):List α→Nat
 | []=>0
 | y :: l=>(if same x y=true then 1 else 0)+dQ same x l
structure oF (same : α→α→Bool):Prop where
 refl:∀ x,same x x=true
 symm:∀ x y,same x y=true→same y x=true
 trans:∀ x y z,same x y=true→same y z=true→same x z=true
variable {same : α→α→Bool}
theorem oF.congr (h:oF same) {x y : α} (hs:same x y=true) (z : α):same z x=same z y:=by
 rw [fp]
 exact ⟨fun h1=>h.trans _ _ _ h1 hs,fun h1=>h.trans _ _ _ h1 (h.symm _ _ hs)⟩
theorem oF.CF (h:oF same) {x y : α} (hs:same x y=true) (z : α):same x z=same y z:=by
 rw [fp]
 exact ⟨fun h1=>h.trans _ _ _ (h.symm _ _ hs) h1,fun h1=>h.trans _ _ _ hs h1⟩
theorem QV (h:oF same) {x y : α} (hs:same x y=true):∀ l,dQ same x l=dQ same y l
 | []=>rfl
 | z :: l=>by rw [dQ,dQ,QV h hs l,h.CF hs]
theorem E9 (h:oF same) {x : α}:∀ {l:List α},x∈l→0<dQ same x l
 | y :: l,hm=>by
  rw [dQ]
  rcases aP.1 hm with rfl | hm
  ·rw [if_pos (h.refl _)];omega
  ·have:=E9 h hm;omega
theorem Ia {x : α}:∀ {l:List α},0<dQ same x l→∃ y∈l,same x y=true
 | y :: l,hp=>by
  rw [dQ] at hp
  by_cases hs:same x y=true
  ·exact ⟨y,by simp,hs⟩
  ·rw [if_neg hs] at hp
   obtain ⟨z,h1,h2⟩:=Ia (x:=x) (l:=l) (by omega)
   exact ⟨z,by simp [h1],h2⟩
theorem Ol (h:oF same) (x : α):∀ b:List α,(wA same x b=none→dQ same x b=0)∧∀ b',wA same x b=some b'→∀ z,dQ same z b=dQ same z b'+if same z x=true then 1 else 0
 | []=>⟨fun _=>rfl,fun b' h=>by rw [wA] at h;cases h⟩
 | y :: b=>by
  obtain ⟨i1,i2⟩:=Ol h x b
  rw [wA]
  by_cases hs:same x y=true
  ·rw [if_pos hs]
   refine ⟨fun h=>(by cases h),fun b' e z=>?_⟩
   cases e
   rw [dQ,h.congr hs z];omega
  ·rw [if_neg hs]
   constructor
   ·intro e
    rw [dQ,if_neg hs,i1 (by simpa using e)]
   ·intro b' e z
    cases hr:wA same x b with
    | none=>rw [hr] at e;cases e
    | some b1 =>
     rw [hr] at e
     cases e
     rw [dQ,dQ,i2 b1 hr z];omega
theorem za (h:oF same):∀ (a b:List α) (z : α),dQ same z (dz same a b)=dQ same z a - dQ same z b
 | [],b,z=>by rw [dz,dQ];omega
 | x :: a,b,z=>by
  obtain ⟨i1,i2⟩:=Ol h x b
  rw [dz]
  cases hr:wA same x b with
  | none =>
   simp only
   rw [dQ,dQ,za h a b z]
   by_cases hs:same z x=true
   ·have:=QV h hs b
    rw [i1 hr] at this
    rw [if_pos hs];omega
   ·rw [if_neg hs];omega
  | some b' =>
   simp only
   rw [za h a b' z,i2 b' hr z,dQ];omega
variable {gt : α→α→Bool}
def xC (same gt : α→α→Bool):Prop:=∀ x x' y y',same x x'=true→same y y'=true→gt x y=gt x' y'
theorem Cp (h:oF same) (hg:xC same gt) (a b:List α):pO gt a b=true↔(∀ y,0<dQ same y b→∃ x,0<dQ same x a∧gt x y=true)∧∃ x,0<dQ same x a:=by
 unfold pO
 rw [aD,bp,decide_eq_true_eq]
 constructor
 ·rintro ⟨h1,h2⟩
  refine ⟨fun y hy=>?_,?_⟩
  ·obtain ⟨y',m,s⟩:=Ia hy
   obtain ⟨x,m2,hx⟩:=er.1 (h1 y' m)
   exact ⟨x,E9 h m2,by rw [hg x x y y' (h.refl _) s];exact hx⟩
  ·obtain ⟨x,l,rfl⟩:=List.exists_cons_of_length_pos h2
   exact ⟨x,E9 h (by simp)⟩
 ·rintro ⟨h1,x0,h2⟩
  refine ⟨fun y hy=>?_,?_⟩
  ·obtain ⟨x,c,hx⟩:=h1 y (E9 h hy)
   obtain ⟨x',m,s⟩:=Ia c
   exact er.2 ⟨x',m,by rw [← hg x x' y y s (h.refl _)];exact hx⟩
  ·obtain ⟨x',m,_⟩:=Ia h2
   exact pa m
theorem Ls (h:oF same) (a b:List α):a.length+b.length=0↔∀ x,dQ same x a=0∧dQ same x b=0:=by
 constructor
 ·intro e x
  have e1:a=[]:=gX.1 (by omega)
  have e2:b=[]:=gX.1 (by omega)
  rw [e1,e2];exact ⟨rfl,rfl⟩
 ·intro e
  have key:∀ l:List α,(∀ x,dQ same x l=0)→l.length=0:=fun l hl=>by
   cases l with
   | nil=>rfl
   | cons x l=>have:=E9 h (x:=x) (l:=x :: l) (by simp);have:=hl x;omega
  rw [key a fun x=>(e x).1,key b fun x=>(e x).2]
theorem Yx (h:oF same) (hg:xC same gt) {a a' b b':List α} (h1:∀ x,dQ same x a=dQ same x a') (h2:∀ x,dQ same x b=dQ same x b'):vJ same gt a b=vJ same gt a' b':=by
 have e1:∀ x,dQ same x (dz same a b)=dQ same x (dz same a' b'):=fun x=>by rw [za h,za h,h1,h2]
 have e2:∀ x,dQ same x (dz same b a)=dQ same x (dz same b' a'):=fun x=>by rw [za h,za h,h1,h2]
 have o1:pO gt (dz same a b) (dz same b a)=pO gt (dz same a' b') (dz same b' a'):=by
  rw [fp,Cp h hg,Cp h hg];simp only [e1,e2]
 have o2:pO gt (dz same b a) (dz same a b)=pO gt (dz same b' a') (dz same a' b'):=by
  rw [fp,Cp h hg,Cp h hg];simp only [e1,e2]
 have o3:(dz same a b).length+(dz same b a).length=0↔(dz same a' b').length+(dz same b' a').length=0:=by
  rw [Ls h,Ls h];simp only [e1,e2]
 unfold vJ
 simp only [Bg,o1,o2,o3]
end
theorem Yqi:oF tX:=⟨fun x=>by simp [tX],fun x y h=>by simp [tX] at h ⊢;exact h.symm,fun x y z h1 h2=>by simp [tX] at h1 h2 ⊢;exact h1.trans h2⟩
theorem ZS (gt:Tm→Tm→Bool):xC tX gt:=fun x x' y y' h1 h2=>by
 simp [tX] at h1 h2;rw [h1,h2]
theorem HI (a b:Li):eV a b=true↔a.neg=b.neg∧((a.l=b.l∧a.r=b.r)∨(a.l=b.r∧a.r=b.l)):=by simp [eV,pB]
theorem Zo:oF eV:=by
 refine ⟨fun x=>?_,fun x y h=>?_,fun x y z h1 h2=>?_⟩
 ·rw [HI];exact ⟨rfl, .inl ⟨rfl,rfl⟩⟩
 ·rw [HI] at h ⊢
  rcases h with ⟨a,⟨b,c⟩ | ⟨b,c⟩⟩
  ·exact ⟨a.symm, .inl ⟨b.symm,c.symm⟩⟩
  ·exact ⟨a.symm, .inr ⟨c.symm,b.symm⟩⟩
 ·rw [HI] at h1 h2 ⊢
  rcases h1 with ⟨a,⟨b,c⟩ | ⟨b,c⟩⟩<;>rcases h2 with ⟨a',⟨b',c'⟩ | ⟨b',c'⟩⟩
  ·exact ⟨a.trans a', .inl ⟨b.trans b',c.trans c'⟩⟩
  ·exact ⟨a.trans a', .inr ⟨b.trans b',c.trans c'⟩⟩
  ·exact ⟨a.trans a', .inr ⟨b.trans c',c.trans b'⟩⟩
  ·exact ⟨a.trans a', .inl ⟨b.trans c',c.trans b'⟩⟩
theorem Og {a b:Li} (h:eV a b=true) (x:Tm):dQ tX x (lF a)=dQ tX x (lF b):=by
 rw [HI] at h
 obtain ⟨e,⟨h1,h2⟩ | ⟨h1,h2⟩⟩:=h
 ·unfold lF;rw [e,h1,h2]
 ·unfold lF
  rw [e,h1,h2]
  split<;>simp only [dQ]<;>omega
theorem XA {g:List Sy} {a a' b b':Li} (h1:eV a a'=true) (h2:eV b b'=true):AX g a b=AX g a' b' :=
 Yx Yqi (ZS _) (Og h1) (Og h2)
theorem Yjv (g:List Sy):xC eV fun x y=>decide (AX g x y=1):=fun x x' y y' h1 h2=>by simp only [XA (g:=g) h1 h2]
mutual
def Tm.ap (f:Int→Tm):Tm→Tm
 | .mk h ts=>if h<0 then f (-1 - h) else .mk h (Tm.tf f ts)
def Tm.tf (f:Int→Tm):List Tm→List Tm
 | []=>[]
 | t :: ts=>t.ap f :: Tm.tf f ts
end
theorem Fx (f:Int→Tm):∀ ts,Tm.tf f ts=ts.map (Tm.ap f)
 | []=>rfl
 | t :: ts=>by simp [Tm.tf,Fx f ts]
theorem FG {f:Int→Tm} {t:Tm} (h:t.head<0):t.ap f=f (-1 - t.head):=by
 cases t;rw [Tm.ap];exact if_pos h
theorem En {f:Int→Tm} {t:Tm} (h:¬ t.head<0):t.ap f = .mk t.head (t.args.map (Tm.ap f)):=by
 cases t;rw [Tm.ap,Fx];exact if_neg h
mutual
theorem Cu (bs:List Bd):∀ t:Tm,t.pd bs=t.ap (nX bs)
 | .mk h ts=>by rw [Tm.pd,Tm.ap,Pv bs ts]
theorem Pv (bs:List Bd):∀ ts:List Tm,Tm.Jn bs ts=Tm.tf (nX bs) ts
 | []=>rfl
 | t :: ts=>by rw [Tm.Jn,Tm.tf,Cu bs t,Pv bs ts]
end
mutual
theorem PG (bs:List Bd):∀ t:Tm,t.good=true→t.sub bs=t.ap (nX bs)
 | .mk h ts,hg=>by
  have ha:=zH hg
  have hh:=(zO hg).2.2.2
  simp only [Tm.head,Tm.args] at ha hh
  rw [Tm.sub,Tm.ap,Pk bs ts ha]
  split
  ·rename_i hn
   rw [hh hn]
   unfold p0 nX
   simp only [Tm.head]
   rw [show -1 - (-1 - h)=h by omega]
  ·rfl
theorem Pk (bs:List Bd):∀ ts:List Tm,(∀ t∈ts,t.good=true)→Tm.rX bs ts=Tm.tf (nX bs) ts
 | [],_=>rfl
 | t :: ts,h=>by rw [Tm.rX,Tm.tf,PG bs t (h t (by simp)),Pk bs ts fun x hx=>h x (by simp [hx])]
end
mutual
theorem Im {f k:Int→Tm}:∀ t:Tm,t.iG (fun v=>f v=k v)→t.ap f=t.ap k
 | .mk h ts,hv=>by
  rw [Tm.iG] at hv
  rw [Tm.ap,Tm.ap,RG ts hv.2]
  split
  ·rename_i hn;exact hv.1 hn
  ·rfl
theorem RG {f k:Int→Tm}:∀ ts:List Tm,Tm.je (fun v=>f v=k v) ts→Tm.tf f ts=Tm.tf k ts
 | [],_=>rfl
 | t :: ts,hv=>by
  rw [Tm.je] at hv
  rw [Tm.tf,Tm.tf,Im t hv.1,RG ts hv.2]
end
mutual
theorem JC {f k:Int→Tm}:∀ t:Tm,t.good=true→t.ap f=t.ap k→t.iG (fun v=>f v=k v)
 | .mk h ts,hg,he=>by
  have ha:=zH hg
  have hh:=(zO hg).2.2.2
  simp only [Tm.head,Tm.args] at ha hh
  rw [Tm.ap,Tm.ap] at he
  rw [Tm.iG]
  by_cases hn:h<0
  ·rw [if_pos hn,if_pos hn] at he
   exact ⟨fun _=>he,by rw [hh hn];trivial⟩
  ·rw [if_neg hn,if_neg hn] at he
   injection he with _ he
   exact ⟨fun h=>absurd h hn,Ox ts ha he⟩
theorem Ox {f k:Int→Tm}:∀ ts:List Tm,(∀ t∈ts,t.good=true)→Tm.tf f ts=Tm.tf k ts→Tm.je (fun v=>f v=k v) ts
 | [],_,_=>trivial
 | t :: ts,hg,he=>by
  rw [Tm.tf,Tm.tf] at he
  injection he with h1 h2
  exact ⟨JC t (hg t (by simp)) h1,Ox ts (fun x hx=>hg x (by simp [hx])) h2⟩
end
theorem Qn {α β:Type} (k : α→β):∀ (a:List α), ∀ p∈a.zip (a.map k),k p.1=p.2
 | x :: a,p,h=>by
  rw [aI,iy] at h
  rcases aP.1 h with rfl | h
  ·rfl
  ·exact Qn k a p h
theorem QD {α β:Type} (k : α→β):∀ (a:List α) (b:List β),a.length=b.length→(∀ p∈a.zip b,k p.1=p.2)→a.map k=b
 | [],[],_,_=>rfl
 | x :: a,y :: b,hl,h=>by
  rw [aI,QD k a b (by simpa using hl) fun p hp=>h p (by rw [iy];simp [hp]),h (x,y) (by rw [iy];simp)]
theorem TJ {f:Int→Tm}:∀ (S:List (Tm×Tm)) (m:List Bd),(∀ x∈S,x.1.ap f=x.2)→(∀ b∈m,f b.v=b.t)→∃ m',gV S m=some m'∧∀ b∈m',f b.v=b.t:=by
 intro S m
 induction S,m using gV.induct with
 | case1 m=>intro _ h;exact ⟨m,by rw [gV],h⟩
 | case2 x r m hv c hf he ih =>
  intro h1 h2
  obtain ⟨m',a1,a2⟩:=ih (fun y hy=>h1 y (by simp [hy])) h2
  exact ⟨m',by rw [gV,if_pos hv,hf];simp only [if_pos he];exact a1,a2⟩
 | case3 x r m hv c hf he =>
  intro h1 h2
  refine absurd ?_ he
  have e1:=h2 c (bQ hf)
  have e2:=h1 x (by simp)
  have e3:=gy hf
  simp only [beq_iff_eq] at e3
  rw [FG (by omega),← e3] at e2
  rw [← e1,e2]
 | case4 x r m hv hf ih =>
  intro h1 h2
  have e2:=h1 x (by simp)
  rw [FG (by omega)] at e2
  obtain ⟨m',a1,a2⟩:=ih (fun y hy=>h1 y (by simp [hy])) (fun b hb=>by
   rcases aX.1 hb with hb | hb
   ·exact h2 b hb
   ·rw [aQ.1 hb];exact e2)
  exact ⟨m',by rw [gV,if_pos hv,hf];exact a1,a2⟩
 | case5 x r m hv hc =>
  intro h1 _
  have e2:=h1 x (by simp)
  rw [En (by omega)] at e2
  rcases hc with hc | hc
  ·exact absurd (by rw [← e2];rfl) hc
  ·exact absurd (by rw [← e2];simp [Tm.args]) hc
 | case6 x r m hv hc ih =>
  intro h1 h2
  have e2:=h1 x (by simp)
  rw [En (by omega)] at e2
  have e3:x.2.args=x.1.args.map (Tm.ap f):=by rw [← e2];rfl
  obtain ⟨m',a1,a2⟩:=ih (fun y hy=>by
   rcases aX.1 hy with hy | hy
   ·have hy:=cX.1 hy
    rw [e3] at hy
    exact Qn _ _ y hy
   ·exact h1 y (by simp [hy])) h2
  exact ⟨m',by rw [gV,if_neg hv,if_neg hc];exact a1,a2⟩
theorem Xc:∀ (S:List (Tm×Tm)) (m m':List Bd),gV S m=some m'→(∀ b∈m,b∈m')∧∀ f:Int→Tm,(∀ b∈m',f b.v=b.t)→∀ x∈S,x.1.ap f=x.2:=by
 intro S m
 induction S,m using gV.induct with
 | case1 m =>
  intro m' h
  rw [gV] at h
  cases h
  exact ⟨fun _ h=>h,fun f _ x hx=>by cases hx⟩
 | case2 x r m hv c hf he ih =>
  intro m' h
  rw [gV,if_pos hv,hf] at h
  simp only [if_pos he] at h
  obtain ⟨a1,a2⟩:=ih m' h
  refine ⟨a1,fun f hb y hy=>?_⟩
  rcases aP.1 hy with rfl | hy
  ·have e3:=gy hf
   simp only [beq_iff_eq] at e3
   rw [FG (by omega),← e3,hb c (a1 c (bQ hf)),he]
  ·exact a2 f hb y hy
 | case3 x r m hv c hf he =>
  intro m' h
  rw [gV,if_pos hv,hf] at h
  simp only [if_neg he] at h
  cases h
 | case4 x r m hv hf ih =>
  intro m' h
  rw [gV,if_pos hv,hf] at h
  simp only at h
  obtain ⟨a1,a2⟩:=ih m' h
  refine ⟨fun b hb=>a1 b (by simp [hb]),fun f hb y hy=>?_⟩
  rcases aP.1 hy with rfl | hy
  ·have:=hb ⟨-1 - y.1.head,y.2⟩ (a1 _ (by simp))
   rw [FG (by omega)];exact this
  ·exact a2 f hb y hy
 | case5 x r m hv hc =>
  intro m' h
  rw [gV,if_neg hv,if_pos hc] at h
  cases h
 | case6 x r m hv hc ih =>
  intro m' h
  rw [gV,if_neg hv,if_neg hc] at h
  obtain ⟨a1,a2⟩:=ih m' h
  refine ⟨a1,fun f hb y hy=>?_⟩
  rcases aP.1 hy with rfl | hy
  ·have e1:y.1.head=y.2.head:=jA fun hn=>hc (.inl hn)
   have e2:y.1.args.length=y.2.args.length:=jA fun hn=>hc (.inr hn)
   rw [En (by omega),QD (Tm.ap f) _ _ e2 fun p hp=>a2 f hb p (gA _ (cX.2 hp))]
   exact JD e1 rfl
  ·exact a2 f hb y (lh _ hy)
theorem Yoq {Q:Tm→Prop} (hQ:∀ t,Q t→∀ u∈t.args,Q u):∀ (S:List (Tm×Tm)) (m m':List Bd),gV S m=some m'→(∀ x∈S,x.1.good=true∧Q x.2)→(∀ b∈m,(0≤b.v∧b.v≤255)∧Q b.t)→∀ b∈m',(0≤b.v∧b.v≤255)∧Q b.t:=by
 intro S m
 induction S,m using gV.induct with
 | case1 m =>
  intro m' h _ h2
  rw [gV] at h
  cases h
  exact h2
 | case2 x r m hv c hf he ih =>
  intro m' h h1 h2
  rw [gV,if_pos hv,hf] at h
  simp only [if_pos he] at h
  exact ih m' h (fun y hy=>h1 y (by simp [hy])) h2
 | case3 x r m hv c hf he =>
  intro m' h
  rw [gV,if_pos hv,hf] at h
  simp only [if_neg he] at h
  cases h
 | case4 x r m hv hf ih =>
  intro m' h h1 h2
  rw [gV,if_pos hv,hf] at h
  simp only at h
  obtain ⟨g1,g2⟩:=h1 x (by simp)
  have gh:=zO g1
  exact ih m' h (fun y hy=>h1 y (by simp [hy])) fun b hb=>by
   rcases aX.1 hb with hb | hb
   ·exact h2 b hb
   ·rw [aQ.1 hb];exact ⟨⟨hv,by simp only;omega⟩,g2⟩
 | case5 x r m hv hc =>
  intro m' h
  rw [gV,if_neg hv,if_pos hc] at h
  cases h
 | case6 x r m hv hc ih =>
  intro m' h h1 h2
  rw [gV,if_neg hv,if_neg hc] at h
  obtain ⟨g1,g2⟩:=h1 x (by simp)
  refine ih m' h (fun y hy=>?_) h2
  rcases aX.1 hy with hy | hy
  ·have hy:=c_ (cX.1 hy)
   exact ⟨zH g1 _ hy.1,hQ _ g2 _ hy.2⟩
  ·exact h1 y (by simp [hy])
mutual
theorem RU {f:Int→Tm}:∀ (t u:Tm) (s:List Bd),t.ap f=u→(∀ b∈s,f b.v=b.t)→(jX t u s).2=true∧∀ b∈(jX t u s).1,f b.v=b.t
 | .mk h ts,u,s,he,hs=>by
  rw [jX]
  rw [Tm.ap] at he
  by_cases hn:h<0
  ·rw [if_pos hn] at he ⊢
   cases hf:s.find? (fun b=>b.v == -1 - h) with
   | some b =>
    have e1:=hs b (bQ hf)
    have e3:=gy hf
    simp only [beq_iff_eq] at e3
    simp only
    refine ⟨?_,hs⟩
    rw [decide_eq_true_eq,← e1,e3,he]
   | none =>
    simp only
    refine ⟨trivial,fun b hb=>?_⟩
    rcases aX.1 hb with hb | hb
    ·exact hs b hb
    ·rw [aQ.1 hb];exact he
  ·rw [if_neg hn] at he ⊢
   subst he
   rw [if_neg (show ¬ (h≠(Tm.mk h (Tm.tf f ts)).head∨ts.length≠(Tm.mk h (Tm.tf f ts)).args.length) from by simp [Tm.head,Tm.args,Fx])]
   exact Rr ts _ s (by rw [← Fx];rfl) hs
theorem Rr {f:Int→Tm}:∀ (ts us:List Tm) (s:List Bd),ts.map (Tm.ap f)=us→(∀ b∈s,f b.v=b.t)→(gR ts us s).2=true∧∀ b∈(gR ts us s).1,f b.v=b.t
 | [],_,s,_,hs=>by rw [gR];exact ⟨rfl,hs⟩
 | t :: ts,[],s,he,_=>by simp at he
 | t :: ts,u :: us,s,he,hs=>by
  rw [aI] at he
  injection he with h1 h2
  obtain ⟨a1,a2⟩:=RU t u s h1 hs
  rw [gR,if_pos a1]
  exact Rr ts us _ h2 a2
end
mutual
theorem J_:∀ (t u:Tm) (s:List Bd),(jX t u s).2=true→(∀ b∈s,b∈(jX t u s).1)∧∀ f:Int→Tm,(∀ b∈(jX t u s).1,f b.v=b.t)→t.ap f=u
 | .mk h ts,u,s,he=>by
  rw [jX] at he ⊢
  by_cases hn:h<0
  ·rw [if_pos hn] at he ⊢
   cases hf:s.find? (fun b=>b.v == -1 - h) with
   | some b =>
    rw [hf] at he
    simp only [decide_eq_true_eq] at he ⊢
    refine ⟨fun _ h=>h,fun f hb=>?_⟩
    have e3:=gy hf
    simp only [beq_iff_eq] at e3
    rw [Tm.ap,if_pos hn,← e3,hb b (bQ hf),he]
   | none =>
    simp only
    refine ⟨fun b hb=>by simp [hb],fun f hb=>?_⟩
    rw [Tm.ap,if_pos hn]
    exact hb ⟨-1 - h,u⟩ (by simp)
  ·rw [if_neg hn] at he ⊢
   by_cases hc:h≠u.head∨ts.length≠u.args.length
   ·rw [if_pos hc] at he;cases he
   ·rw [if_neg hc] at he ⊢
    have e1:h=u.head:=jA fun hn=>hc (.inl hn)
    have e2:ts.length=u.args.length:=jA fun hn=>hc (.inr hn)
    obtain ⟨a1,a2⟩:=QH ts u.args s e2 he
    refine ⟨a1,fun f hb=>?_⟩
    rw [Tm.ap,if_neg hn,Fx,a2 f hb]
    exact JD e1 rfl
theorem QH:∀ (ts us:List Tm) (s:List Bd),ts.length=us.length→(gR ts us s).2=true→(∀ b∈s,b∈(gR ts us s).1)∧∀ f:Int→Tm,(∀ b∈(gR ts us s).1,f b.v=b.t)→ts.map (Tm.ap f)=us
 | [],[],s,_,_=>by rw [gR];exact ⟨fun _ h=>h,fun _ _=>rfl⟩
 | t :: ts,u :: us,s,hl,he=>by
  rw [gR] at he ⊢
  by_cases hg:(jX t u s).2=true
  ·rw [if_pos hg] at he ⊢
   obtain ⟨a1,a2⟩:=J_ t u s hg
   obtain ⟨b1,b2⟩:=QH ts us _ (by simpa using hl) he
   refine ⟨fun b hb=>b1 b (a1 b hb),fun f hb=>?_⟩
   rw [aI,b2 f hb,a2 f fun b hx=>hb b (b1 b hx)]
  ·rw [if_neg hg] at he;cases he
end
mutual
theorem Lz:∀ (t u:Tm) (s:List Bd),(s.map Bd.v).Nodup→((jX t u s).1.map Bd.v).Nodup
 | .mk h ts,u,s,hs=>by
  rw [jX]
  split
  ·split
   ·exact hs
   ·rename_i hf
    rw [cN,gB]
    refine ⟨hs,by simp,fun u hu w hw=>?_⟩
    simp only [aI,aS,aQ] at hw
    subst hw
    obtain ⟨b,hb,rfl⟩:=bW.1 hu
    intro e
    exact absurd (by simpa using e) (j_.1 hf b hb)
  ·split
   ·exact hs
   ·exact Tx ts u.args s hs
theorem Tx:∀ (ts us:List Tm) (s:List Bd),(s.map Bd.v).Nodup→((gR ts us s).1.map Bd.v).Nodup
 | [],_,s,hs=>by rw [gR];exact hs
 | _ :: _,[],s,hs=>by rw [gR];exact hs
 | t :: ts,u :: us,s,hs=>by
  rw [gR]
  split
  ·exact Tx ts us _ (Lz t u s hs)
  ·exact hs
end
theorem LR:∀ l:List Bd,(l.map Bd.v).Nodup→∀ b∈l,l.find? (fun c=>c.v==b.v)=some b
 | c :: l,h,b,hb=>by
  rw [aI,eh] at h
  rw [pU]
  rcases aP.1 hb with rfl | hb
  ·simp
  ·have dX:¬ c.v=b.v:=fun e=>h.1 (by rw [e];exact bW.2 ⟨b,hb,rfl⟩)
   rw [show (c.v==b.v)=false from by simp [dX]]
   exact LR l h.2 b hb
theorem Ykf {l:List Bd} (h:(l.map Bd.v).Nodup) (v:Int):l.reverse.find? (fun c=>c.v==v)=l.find? (fun c=>c.v==v):=by
 cases hf:l.find? (fun c=>c.v==v) with
 | some b =>
  have e3:=gy hf
  simp only [beq_iff_eq] at e3
  have:=LR l.reverse (by rw [List.map_reverse];exact (List.reverse_perm _).nodup_iff.2 h) b (cX.2 (bQ hf))
  rwa [e3] at this
 | none =>
  rw [j_] at hf ⊢
  exact fun x hx=>hf x (cX.1 hx)
theorem Yqm {l:List Bd} (h:(l.map Bd.v).Nodup) (v:Int):nX l.reverse v=nX l v:=by
 unfold nX;rw [Ykf h]
theorem LP {l:List Bd} (h:(l.map Bd.v).Nodup):∀ b∈l,nX l b.v=b.t:=fun b hb=>by
 unfold nX;rw [LR l h b hb];rfl
theorem Iu {k:Int→Option Bd} (hk:∀ w b,k w=some b→b.v=w) (v:Int):∀ L:List Int,(L.filterMap k).find? (fun c=>c.v==v)=if v∈L then k v else none
 | []=>by simp
 | w :: L=>by
  rw [List.filterMap_cons]
  cases hw:k w with
  | none =>
   simp only
   rw [Iu hk v L]
   by_cases e:v=w
   ·subst e;rw [hw];simp
   ·simp [aP,e]
  | some b =>
   simp only
   rw [pU,Iu hk v L,hk w b hw]
   by_cases e:w=v
   ·subst e;simp [hw]
   ·rw [show (w==v)=false from by simp [e]]
    simp [aP,fY e]
theorem Ps {t:Tm} {v:Int} (hg:t.good=true) (h0 : 0≤v) (h:t.head = -1 - v):t = .mk (-1 - v) []:=by
 have:=(zO hg).2.2.2 (by omega)
 cases t;simp only [Tm.head,Tm.args] at h this;rw [h,this]
def kP (m:List Bd) (v:Int):Option Bd:=match m.find? (fun c=>c.v==v) with | some c=>if c.t.head = -1 - v then none else some ⟨v,c.t⟩ | none=>none
theorem G1 (m:List Bd) (w:Int) (b:Bd) (h:kP m w=some b):b.v=w:=by
 unfold kP at h
 split at h
 ·split at h
  ·cases h
  ·cases h;rfl
 ·cases h
theorem K3 (m:List Bd) (ks:List Int):iV m ks=ks.filterMap (kP m):=rfl
theorem Xf {m:List Bd} {ks:List Int} (M4:∀ b∈m,b.v∈ks) (hv:∀ b∈m,0≤b.v∧b.t.good=true) (v:Int):nX (iV m ks) v=nX m v:=by
 rw [K3]
 unfold nX
 rw [Iu (G1 m)]
 unfold kP
 cases hf:m.find? (fun c=>c.v==v) with
 | none=>simp
 | some c =>
  have hc:=bQ hf
  have e3:=gy hf
  simp only [beq_iff_eq] at e3
  rw [if_pos (by rw [← e3];exact M4 c hc)]
  simp only
  by_cases e:c.t.head = -1 - v
  ·rw [if_pos e]
   exact (Ps (hv c hc).2 (by rw [← e3];exact (hv c hc).1) e).symm
  ·rw [if_neg e];rfl
def kD (s:List Bd) (v:Int):Option Bd:=if (nX s v).head = -1 - v then none else some ⟨v,nX s v⟩
theorem NV (s:List Bd) (w:Int) (b:Bd) (h:kD s w=some b):b.v=w:=by
 unfold kD at h
 split at h
 ·cases h
 ·cases h;rfl
theorem Ym9 (s:List Bd):uF s=((List.range 256).map fun n:Nat=>(n:Int)).filterMap (kD s):=by
 unfold uF B1
 rw [List.filterMap_map];rfl
theorem S0 {s:List Bd} (hg:∀ b∈s,b.t.good=true) {v:Int} (h0 : 0≤v) (h1:v≤255):nX (uF s) v=nX s v:=by
 rw [Ym9]
 have fh:v∈(List.range 256).map fun n:Nat=>(n:Int):=bW.2 ⟨v.toNat,cw.2 (by omega),by omega⟩
 have e:nX (((List.range 256).map fun n:Nat=>(n:Int)).filterMap (kD s)) v=((kD s v).map Bd.t).getD (.mk (-1 - v) []):=by
  conv=>lhs;unfold nX
  rw [Iu (NV s),if_pos fh]
 rw [e]
 unfold kD
 by_cases c:(nX s v).head = -1 - v
 ·rw [if_pos c]
  have vu:(nX s v).good=true:=Ypy (P:=fun t=>t.good=true) hg (by
   simp only [Tm.good,Tm.fT,aR,n7,bT,cE,decide_eq_false_iff_not,eY]
   refine ⟨⟨⟨.inr (by omega),by omega⟩,by omega⟩,by omega⟩)
  exact (Ps vu h0 c).symm
 ·rw [if_neg c];rfl
theorem Lo {m:List Bd} (hm:∀ b∈m,(0≤b.v∧b.v≤255)∧b.t.check=0):∀ (ks:List Int) (a:Int),ks.Pairwise (· < ·)→(∀ v∈ks,a<v)→jn a (iV m ks)=0
 | [],_,_,_=>rfl
 | w :: ks,a,hp,ha=>by
  rw [List.pairwise_cons] at hp
  rw [K3,List.filterMap_cons,← K3]
  cases hw:kP m w with
  | none=>exact Lo hm ks a hp.2 fun v hv=>ha v (by simp [hv])
  | some b =>
   simp only
   have hbv:=G1 m w b hw
   unfold kP at hw
   cases hf:m.find? (fun c=>c.v==w) with
   | none=>rw [hf] at hw;cases hw
   | some c =>
    rw [hf] at hw
    simp only at hw
    have e3:=gy hf
    simp only [beq_iff_eq] at e3
    have hc:=hm c (bQ hf)
    by_cases e:c.t.head = -1 - w
    ·rw [if_pos e] at hw;cases hw
    ·rw [if_neg e] at hw
     cases hw
     have:=ha w (by simp)
     rw [jn,if_neg (by
      simp only
      rintro (h | h | h | h)
      ·omega
      ·omega
      ·exact h hc.2
      ·exact e h)]
     exact Lo hm ks w hp.2 hp.1
theorem Yks {l:List Int} (h:l.Nodup):(fW l).Pairwise (· < ·):=by
 have ht:∀ x y z:Int,decide (x≤y)=true→decide (y≤z)=true→decide (x≤z)=true:=fun x y z h1 h2=>by simp at *;omega
 have hc:∀ x y:Int,(decide (x≤y)||decide (y≤x))=true:=fun x y=>by simp;omega
 have h1:(fW l).Pairwise fun x y=>decide (x≤y)=true:=List.pairwise_mergeSort ht hc l
 have h2:(fW l).Nodup:=(jG l _).nodup_iff.2 h
 refine (h1.and h2).imp fun {x y} h=>?_
 have h3:=h.1
 have h4:=h.2
 simp only [decide_eq_true_eq] at h3
 omega
theorem Sb {l:List Int} {v:Int}:v∈fW l↔v∈l:=(jG l _).mem_iff
theorem Ut {t:Tm} (h:t.check=0):sX [t]=true:=by simp [sX,h]
theorem Ij {t:Tm} (h:t.check=0):iD [t]=false:=by simp [iD,h]
theorem Zyv:∀ t:Tm,t.check=0→∀ u∈t.args,u.check=0:=fun t h u hu=>by
 obtain ⟨c1,c2,c3⟩:=sE h
 have z1:=tb hu
 have z2:=oA t
 have z3:=Rc hu
 exact Tj (by omega) (by omega) (zH c3 u hu)
theorem Po (l u:Tm):(wO [l] [u]).2=(jX l u []).2∧((jX l u []).2=true→(wO [l] [u]).1=(jX l u []).1):=by
 have h:gR [l] [u] []=if (jX l u []).2=true then ((jX l u []).1,true) else ([],false):=by
  rw [gR];split
  ·rw [gR]
  ·rfl
 unfold wO
 rw [h]
 by_cases c:(jX l u []).2=true
 ·simp [c]
 ·simp [c]
theorem H5 {l u:Tm} (hl:l.check=0) (hu:u.check=0) (fl:l.fit) (fu:u.fit) :
  (gL [l] [u]).2.2=0∧(gG [l] [u]).2.2=0∧(gL [l] [u]).2.1=(gG [l] [u]).2.1∧((gG [l] [u]).2.1=true→jn (-1) (gG [l] [u]).1=0∧l.pd (gL [l] [u]).1=u∧∀ r:Tm,r.good=true→within r l=true→r.sub (gG [l] [u]).1.reverse=r.pd (gL [l] [u]).1):=by
 obtain ⟨l1,_,l3⟩:=sE hl
 obtain ⟨u1,_,u3⟩:=sE hu
 have eD:gL [l] [u]=if (jX l u []).2=false then ([],false,0) else (uF (wO [l] [u]).1,true,0):=by
  unfold gL
  rw [Ut hl,Ut hu,if_neg (by simp),(Po l u).1]
 have eP:gG [l] [u]=match gV [(l,u)] [] with | none=>([],false,0) | some m=>(iV m (fW (m.map Bd.v)),true,0):=by
  unfold gG
  rw [Ij hl,Ij hu,if_neg (by simp)];rfl
 cases hg:gV [(l,u)] [] with
 | none =>
  rw [hg] at eP
  have:(jX l u []).2=false:=by
   cases hd:(jX l u []).2 with
   | false=>rfl
   | true =>
    obtain ⟨_,h2⟩:=J_ l u [] hd
    have h3:=h2 _ (LP (Lz l u [] (by simp)))
    obtain ⟨m',h4,_⟩:=TJ (f:=nX (jX l u []).1) [(l,u)] [] (fun x hx=>by rw [aQ.1 hx];exact h3) (fun b hb=>by cases hb)
    rw [hg] at h4;cases h4
  rw [if_pos this] at eD
  rw [eD,eP]
  exact ⟨rfl,rfl,rfl,fun h=>by cases h⟩
 | some m =>
  rw [hg] at eP
  simp only at eP
  have fP:yV [(l,u)]:=fun x hx=>by rw [aQ.1 hx];exact ⟨fl,fu,by simp only;omega⟩
  have oS:=(PQ _ _ _ hg fP (fun b hb=>by cases hb) (by simp)).2.1
  have AJ:=Yoq (Q:=fun t=>t.check=0) Zyv _ _ _ hg (fun x hx=>by rw [aQ.1 hx];exact ⟨l3,hu⟩) (fun b hb=>by cases hb)
  have hs:=(Xc _ _ _ hg).2 _ (LP oS) (l,u) (by simp)
  simp only at hs
  obtain ⟨d1,d2⟩:=RU l u [] hs (fun b hb=>by cases hb)
  rw [if_neg (by rw [d1];simp),(Po l u).2 d1] at eD
  have uv:=(J_ l u [] d1).2 _ (LP (Lz l u [] (by simp)))
  have xW:l.iG fun v=>nX m v=nX (jX l u []).1 v:=JC l l3 (hs.trans uv.symm)
  have vZ:∀ b∈(jX l u []).1,b.t.good=true:=Uc (P:=fun t=>t.good=true) (fun t h=>zH h) l u [] u3 (fun b hb=>by cases hb)
  have hP:∀ v,nX (iV m (fW (m.map Bd.v))) v=nX m v:=Xf (fun b hb=>Sb.2 (bW.2 ⟨b,hb,rfl⟩)) fun b hb=>⟨(AJ b hb).1.1,(sE (AJ b hb).2).2.2⟩
  have F7:jn (-1) (iV m (fW (m.map Bd.v)))=0:=Lo AJ _ _ (Yks oS) fun v hv=>by
   obtain ⟨b,hb,rfl⟩:=bW.1 (Sb.1 hv)
   have:=(AJ b hb).1
   omega
  have Nd:=(JM _ _ F7).2
  have Ez:=Y5 l l3
  rw [eD,eP]
  refine ⟨rfl,rfl,rfl,fun _=>⟨F7,?_,fun r hr hw=>?_⟩⟩
  ·rw [Cu]
   refine (Im l ?_).trans uv
   rw [← Eb] at Ez ⊢
   exact fun v hv=>S0 vZ (Ez v hv).1 (by have:=(Ez v hv).2;omega)
  ·rw [PG _ _ hr,Cu]
   refine Im r ?_
   rw [← Eb] at xW Ez ⊢
   intro v hv
   have NL:v∈l.vars:=by
    unfold within at hw
    exact of_decide_eq_true (bp.1 hw v hv)
   rw [Yqm Nd,hP,xW v NL]
   exact (S0 vZ (Ez v NL).1 (by have:=(Ez v NL).2;omega)).symm
theorem H2 (g:List Sy) (t:Tm):nq g t=t.cA g:=by
 unfold nq Tm.cA lu
 by_cases h : 0≤t.head
 ·by_cases h2:t.head<(g.length:Int)
  ·have hk:t.head.toNat<g.length:=by omega
   simp [h,h2,hk,List.getD]
  ·have hk:¬ t.head.toNat<g.length:=by omega
   simp [h,h2,hk]
 ·simp [h]
theorem Zyo {g:List Sy} (hs:fV g=true) {t:Tm} (h:t.head=0):t.cA g=true:=by
 have h1:=Zym hs
 have h2:=(Tc hs).1
 unfold isTrue at h1
 simp only [aD] at h1
 unfold Tm.cA lu
 rw [h]
 simp only [aD,decide_eq_true_eq]
 refine ⟨⟨qx _,by omega⟩,?_⟩
 have:g.getD (Int.toNat 0) Sy.tV=g.getD 0 Sy.tV:=rfl
 rw [this];exact h1.2.2.2
theorem SN {g:List Sy} {x y:Tm} (hx:x.term g=0) (hy:y.term g=0):(py x y).check g=0↔¬ ((x.cA g&&decide (y.head≠0))||(!x.cA g&&y.cA g))=true:=by
 unfold Li.check py
 simp only
 rw [if_neg (fun h=>h hx),if_neg (fun h=>h hy)]
 split
 ·simp_all
 ·simp_all
theorem Yji {g:List Sy} (hs:fV g=true) (l:Li):a_ g [l]=l.check g:=by
 unfold a_
 rw [if_neg (by rw [hs];simp),if_neg (by simp),dC,dC]
 split
 ·rfl
 ·rename_i h;exact (Decidable.not_not.1 h).symm
theorem TH {g:List Sy} {x y:Tm} (hs:fV g=true) (h0:x.cA g=true→x.head≠0) (h:a_ g [py y x]=0):a_ g [py x y]=0:=by
 obtain ⟨hy,hx⟩:=JE h
 rw [Yji hs] at h ⊢
 rw [SN hy hx] at h
 rw [SN hx hy]
 intro hn
 apply h
 simp only [b9,aD,decide_eq_true_eq,bT] at hn ⊢
 rcases hn with ⟨a,b⟩ | ⟨a,b⟩
 ·cases hyt:y.cA g with
  | true=>exact .inl ⟨rfl,h0 a⟩
  | false=>exact .inr ⟨rfl,a⟩
 ·refine .inl ⟨b,fun e=>?_⟩
  rw [Zyo hs e] at a;cases a
theorem Ysl {g:List Sy} {c:List Li} {u:Un} {t:Tm} {e:Li} {n:Int} (hc:kN g c) (hl:jQ g u.l) (hr:jQ g u.r) (ht:jQ g t) (hb:fG u=false) (he:gI e n=(u.l,u.r)) :
  (wC g e n t c).2=(j5 g c u t).2∧((j5 g c u t).2=true→(wC g e n t c).1=(j5 g c u t).1):=by
 unfold fG at hb
 simp only [cE,decide_eq_false_iff_not,iw] at hb
 obtain ⟨qJ,uT⟩:=hb
 have hs:=J0 ht.1
 have gK:=(ph hl.1).1
 have Et:=(ph ht.1).1
 have Gm:=(sE (ph hr.1).1).2.2
 obtain ⟨m1,m2,m3,m4⟩:=H5 gK Et hl.2 ht.2
 unfold wC j5 n5
 rw [he]
 simp only
 rw [H2,H2]
 by_cases c1:u.l.cA g=t.cA g
 ·have n1:¬ (u.l.head=0∨u.l.cA g≠t.cA g∨within u.r u.l=false):=by
   rintro (h | h | h)
   ·exact qJ h
   ·exact h c1
   ·rw [uT] at h;cases h
  have n2:¬ (u.l.cA g≠t.cA g):=fun h=>h c1
  rw [if_neg n1,if_neg n2]
  have e1:mT u t=gG [u.l] [t]:=rfl
  rw [e1]
  by_cases c2:(gG [u.l] [t]).2.1=true
  ·obtain ⟨k1,k2,k3⟩:=m4 c2
   have n3:¬ ((gL [u.l] [t]).2.2≠0∨(gL [u.l] [t]).2.1=false):=by rw [m1,m3,c2];simp
   have n4:¬ ((gG [u.l] [t]).2.2≠0∨(gG [u.l] [t]).2.1=false):=by rw [m2,c2];simp
   rw [if_neg n3,if_neg n4,k2]
   have k4:=k3 u.r Gm uT
   generalize hy:u.r.pd (gL [u.l] [t]).1=y
   rw [hy] at k4
   have ha:aT u t=if y.check=0 then (y,0) else (gT,y.check):=by
    unfold aT qe
    rw [e1,k4,if_neg]
    rintro (h | h)
    ·exact h k1
    ·exact h (ph hr.1).1
   by_cases c3:y.term g=0
   ·have AK:=(ph c3).1
    rw [if_pos AK] at ha
    have EJ:jQ g y:=by
     have:=(JI hr (qc ht)).1
     rw [ha] at this
     exact ⟨c3,this⟩
    have hk:kT g u t=(dS g t y,0):=by
     unfold kT
     rw [ha]
     have:eC g [t,y]=0:=by rw [eC,if_pos ht.1,eC,if_pos c3,eC]
     simp only [this,if_true]
    have hq:qT g u t c=oL g [py t y] c:=by unfold qT py;rw [ha]
    rw [ha,hk,hq]
    simp only
    rw [if_neg (fun h:(0:Int)≠0=>h rfl)]
    by_cases c4:a_ g [py t y]=0
    ·rw [if_neg (fun h=>h.1 c4)]
     have BK:kN g [py t y]:=⟨c4,fun l hl=>by rw [aQ.1 hl];exact ⟨ht.2,EJ.2⟩⟩
     rw [Yp2 BK hc]
     have fP:=Ue ht EJ
     by_cases c5:dS g t y=1
     ·rw [c5] at fP ⊢
      rw [← fP]
      by_cases c6:uE g [py t y] c = -1
      ·simp [c6]
      ·simp [c6]
     ·rw [show decide (dS g t y=1)=false from by simp [c5]] at fP
      rw [← fP]
      simp [c5]
    ·have c7:a_ g [py y t]≠0:=fun h=>c4 (TH hs (fun sR h0=>by
      rw [← c1] at sR
      have hh:¬ u.l.head<0:=by
       unfold Tm.cA at sR
       simp only [aD,decide_eq_true_eq] at sR
       omega
      rw [Cu,En hh] at k2
      rw [← k2] at h0
      exact qJ h0) h)
     rw [if_pos ⟨c4,c7⟩]
     have:(oL g [py t y] c).2≠0:=by unfold oL;rw [if_pos c4];exact c4
     by_cases c5:dS g t y=1
     ·simp [c5,this]
     ·simp [c5]
   ·have c4:a_ g [py t y]≠0:=fun h=>c3 (JE h).2
    have c7:a_ g [py y t]≠0:=fun h=>c3 (JE h).1
    rw [if_pos ⟨c4,c7⟩]
    by_cases AK:y.check=0
    ·rw [if_pos AK] at ha
     have hk:(kT g u t).2≠0:=by
      unfold kT
      rw [ha]
      rw [eC,if_pos ht.1,eC,if_neg c3];exact c3
     rw [ha]
     simp [hk]
    ·rw [if_neg AK] at ha
     rw [ha]
     simp [AK]
  ·have n3:(gL [u.l] [t]).2.2≠0∨(gL [u.l] [t]).2.1=false:=.inr (by rw [m3];simpa using c2)
   have n4:(gG [u.l] [t]).2.2≠0∨(gG [u.l] [t]).2.1=false:=.inr (by simpa using c2)
   rw [if_pos n3,if_pos n4]
   exact ⟨rfl,fun h=>by cases h⟩
 ·have n1:u.l.head=0∨u.l.cA g≠t.cA g∨within u.r u.l=false:=.inr (.inl c1)
  rw [if_pos n1,if_pos (show u.l.cA g≠t.cA g from c1)]
  exact ⟨rfl,fun h=>by cases h⟩
theorem Yqg {g:List Sy} {es:List (List Li)} {c:List Li} (hw:cB g (c :: es)=0):wB g es c=de g (cM es) c:=by
 unfold wB;exact if_neg (fun h=>h hw)
end Go.Proofs
namespace Go.Proofs
open Go Go.cV
attribute [local go_sem] Nat.reduceAdd Nat.reduceSub Nat.reduceMul Nat.reduceLeDiff Nat.reduceEqDiff Nat.reduceBEq Nat.reduceLT Nat.le_refl Int.natCast_zero Nat.sub_zero List.length_map Int.toNat_natCast Int.natCast_one Int.reduceEq Int.reduceLT Int.reduceLE Int.reduceNe Int.sub_zero Int.zero_add Int.toNat_one
theorem Yow {g:List Sy} {c:List Li} (h:kN g c):yU c∧c.length≤32:=by
 refine ⟨fun l hl=>?_,(zG h.1).2.1⟩
 obtain ⟨a1,a2⟩:=uP h hl
 have b1:=(qc a1).2
 have b2:=(qc a2).2
 omega
end Go.Proofs
namespace Go.Proofs
open Go Go.cV
theorem Pm (g:List Sy) (t:Tm):t.gr g t=false:=by
 rw [JH,if_neg (fun h=>h rfl:¬ t.mj g≠t.mj g),if_neg (fun h=>h rfl:¬ t.head≠t.head),KS]
 repeat' split
 all_goals rfl
theorem Lh {P:List Li→Prop} {S:List Li→List Li×Int×Bool×Int} (hP:∀ c,P c→(S c).2.2.2=0→(S c).2.2.1=true→P (S c).1):∀ (n:Nat) (c:List Li) (u:List Int),P c→(dM S n c u).2.2=0 →
  P (dM S n c u).1∧(S (dM S n c u).1).2.2.2=0∧(S (dM S n c u).1).2.2.1=false∧u.length≤(dM S n c u).2.1.length∧((S c).2.2.1=true→u.length<(dM S n c u).2.1.length)∧((S c).2.2.1=false→(dM S n c u).2.1=u)
 | 0,c,u,h,h0=>by rw [dM] at h0;cases h0
 | n+1,c,u,h,h0=>by
  rw [dM] at h0 ⊢
  by_cases h1:(S c).2.2.2=0
  ·rw [if_neg (fun k=>k h1)] at h0 ⊢
   by_cases h2:(S c).2.2.1=false
   ·rw [if_pos h2] at h0 ⊢
    exact ⟨h,h1,h2,ah _,fun k=>(by rw [h2] at k;cases k),fun _=>rfl⟩
   ·rw [if_neg h2] at h0 ⊢
    have uS:(S c).2.2.1=true:=by simpa using h2
    by_cases h3 : 200<u.length+1
    ·rw [if_pos h3] at h0;cases h0
    ·rw [if_neg h3] at h0 ⊢
     obtain ⟨a1,a2,a3,a4,_⟩:=Lh hP n _ _ (hP c h h1 uS) h0
     rw [ay] at a4
     simp only [au,aR] at a4
     exact ⟨a1,a2,a3,by omega,fun _=>by omega,fun k=>absurd k h2⟩
  ·rw [if_pos h1] at h0;exact absurd h0 h1
theorem KQ {g:List Sy} {es:List (List Li)} {c:List Li} (h:rf es c) (h0:(cx g es c).2.2=0):cB g (c :: es)=0∧kN g (cx g es c).1∧cx g es (cx g es c).1=((cx g es c).1,[],0)∧decide (0<(cx g es c).2.1.length)=(wB g es c).2.2.1:=by
 have hw:cB g (c :: es)=0:=by
  by_cases hw:cB g (c :: es)=0
  ·exact hw
  ·unfold cx fQ at h0
   rw [if_pos hw] at h0
   exact absurd h0 hw
 have hi:=FI h hw
 have e1:cx g es c=dM (de g (cM es)) 201 c []:=by unfold cx fQ;exact if_neg (fun k=>k hw)
 have e2:wB g es c=de g (cM es) c:=Yqg hw
 rw [e1] at h0
 obtain ⟨a1,a2,a3,a4,a5,a6⟩:=Lh (P:=kN g) (fun d hd k0 _=>Um hi.2.1 hd k0) 201 c [] hi.1 h0
 rw [e1,e2]
 generalize hx:(dM (de g (cM es)) 201 c []).1=x at *
 refine ⟨hw,a1,?_,?_⟩
 ·have re:cB g (x :: es)=0:=by
   rw [cB,if_neg (fun k=>k a1.1)]
   rw [cB] at hw
   split at hw
   ·rename_i h3;exact absurd hw h3
   ·exact hw
  have e3:cx g es x=dM (de g (cM es)) 201 x []:=by unfold cx fQ;exact if_neg (fun k=>k re)
  rw [e3,dM,if_neg (fun k=>k a2),if_pos a3]
 ·cases hb:(de g (cM es) c).2.2.1 with
  | true=>rw [decide_eq_true_eq];exact Nat.lt_of_le_of_lt (av _) (a5 hb)
  | false=>rw [a6 hb];rfl
theorem Kt {p:Int→Prop}:∀ ts:List Tm,Tm.je p ts↔∀ t∈ts,t.iG p
 | []=>by simp [Tm.je]
 | t :: ts=>by rw [Tm.je,Kt ts];simp
theorem Ylo {g:List Sy} {c:List Li} {u:Un} {t:Tm} (hl:jQ g u.l) (hr:jQ g u.r) (ht:jQ g t) (hb:fG u=false) (h:(j5 g c u t).2=true) :
  ∃ s:Int→Tm,u.l.ap s=t∧(j5 g c u t).1=u.r.ap s∧(u.l.head<0→t.cA g=false):=by
 unfold fG at hb
 simp only [cE,decide_eq_false_iff_not,iw] at hb
 obtain ⟨qJ,uT⟩:=hb
 have gK:=(ph hl.1).1
 have Et:=(ph ht.1).1
 have Gm:=(sE (ph hr.1).1).2.2
 obtain ⟨m1,m2,m3,m4⟩:=H5 gK Et hl.2 ht.2
 unfold j5 n5 at h ⊢
 split at h
 ·cases h
 split at h
 ·cases h
 split at h
 ·cases h
 split at h
 ·cases h
 rename_i c1 c2 c3 c4
 rw [if_neg c1,if_neg c2,if_neg c3,if_neg c4]
 simp only
 have e1:mT u t=gG [u.l] [t]:=rfl
 have c5:(gG [u.l] [t]).2.1=true:=by
  rw [e1] at c2
  cases hc:(gG [u.l] [t]).2.1 with
  | true=>rfl
  | false=>exact absurd (.inr hc) c2
 obtain ⟨k1,k2,k3⟩:=m4 c5
 have k4:=k3 u.r Gm uT
 rw [Cu] at k2 k4
 refine ⟨_,k2,?_,fun hn=>?_⟩
 ·generalize hy:u.r.ap (nX (gL [u.l] [t]).1)=y at *
  have ha:aT u t=if y.check=0 then (y,0) else (gT,y.check):=by
   unfold aT qe
   rw [e1,k4,if_neg]
   rintro (h | h)
   ·exact h k1
   ·exact h (ph hr.1).1
  by_cases AK:y.check=0
  ·rw [ha,if_pos AK]
  ·rw [ha,if_neg AK] at c3
   exact absurd AK c3
 ·rw [H2,H2] at c1
  rw [← Decidable.not_not.1 c1]
  have:decide (0≤u.l.head)=false:=by simp;omega
  unfold Tm.cA
  rw [this];rfl
def Aa (p:Int→Prop) (c:List Li):Prop:=∀ l∈c,l.l.iG p∧l.r.iG p
def vr (v:Int):Tm:=.mk (-1 - v) []
def Tm.rn (r:Int→Int) (t:Tm):Tm:=t.ap fun v=>vr (r v)
structure qa (r:Int→Int) (p:Int→Prop):Prop where
 inj:∀ v w,p v→p w→r v=r w→v=w
 pos:∀ v,p v→0≤r v∧r v≤255
 non:∀ v,p v→0≤v
theorem JB {r:Int→Int} {t:Tm} (h:t.head<0):t.rn r=vr (r (-1 - t.head)):=FG h
theorem Js {r:Int→Int} {t:Tm} (h:¬ t.head<0):t.rn r = .mk t.head (t.args.map (Tm.rn r)):=En h
theorem LB {r:Int→Int} {t:Tm} (h:¬ t.head<0):(t.rn r).head=t.head∧(t.rn r).args=t.args.map (Tm.rn r):=by rw [Js h];exact ⟨rfl,rfl⟩
theorem Ru {t:Tm} (hg:t.good=true) (h:t.head<0):t.args=[]:=by
 have:=(zO hg).2.2.2
 exact this h
theorem S6 {p:Int→Prop} {t:Tm} (h:t.iG p) (hn:t.head<0):p (-1 - t.head):=by
 cases t;rw [Tm.iG] at h;exact h.1 hn
theorem Zw {p:Int→Prop} {t:Tm} (h:t.iG p):∀ u∈t.args,u.iG p:=by
 cases t;rw [Tm.iG,Kt] at h;exact h.2
section
variable {r:Int→Int} {p:Int→Prop}
theorem Rx (hr:qa r p) {t:Tm} (hv:t.iG p):(t.rn r).head<0↔t.head<0:=by
 by_cases h:t.head<0
 ·rw [JB h]
  have:=(hr.pos _ (S6 hv h)).1
  have e:(vr (r (-1 - t.head))).head = -1 - r (-1 - t.head):=rfl
  rw [e]
  constructor
  ·intro _;exact h
  ·intro _;omega
 ·rw [(LB h).1]
theorem K8 (hr:qa r p) (g:List Sy):∀ t:Tm,t.iG p→(t.rn r).cA g=t.cA g:=fun t hv=>by
 by_cases h1:t.head<0
 ·have h2:=(Rx hr hv).2 h1
  have e1:decide (0≤(t.rn r).head)=false:=by simp;omega
  have e2:decide (0≤t.head)=false:=by simp;omega
  unfold Tm.cA
  rw [e1,e2];rfl
 ·unfold Tm.cA
  rw [(LB h1).1]
mutual
theorem E8 (hr:qa r p) (g:List Sy):∀ t:Tm,t.good=true→t.iG p→(t.rn r).size=t.size∧(t.rn r).depth=t.depth∧(t.rn r).good=true∧(t.rn r).known g=t.known g∧(t.rn r).jo g=t.jo g∧(t.rn r).mj g=t.mj g∧(t.rn r).fit
 | .mk h ts,hg,hv=>by
  by_cases h1:h<0
  ·rw [JB (t:=.mk h ts) h1]
   have a1:=Ru hg h1
   simp only [Tm.args,Tm.head] at a1
   subst a1
   have hp:=hr.pos _ (S6 hv h1)
   simp only [Tm.head] at hp ⊢
   have h2 : -1 - r (-1 - h)<0:=by omega
   refine ⟨rfl,rfl,?_,?_,rfl,?_,?_⟩
   ·simp only [vr,Tm.good,Tm.fT,aR,n7,bT,cE,decide_eq_false_iff_not,eY]
    exact ⟨⟨⟨.inr (by omega),by omega⟩,by omega⟩,by omega⟩
   ·simp only [vr,Tm.known,decide_eq_true h2,decide_eq_true h1,fH]
   ·simp only [vr,Tm.mj];rw [if_pos h2,if_pos h1]
   ·exact ⟨by unfold n8;omega,trivial⟩
  ·have BB:=zH hg
   have EG:=Zw hv
   simp only [Tm.args] at BB EG
   obtain ⟨b1,b2,b3,b4,b5,b6,b7⟩:=SU hr g ts BB EG
   have hh:=zO hg
   rw [Js (t:=.mk h ts) h1]
   simp only [Tm.head,Tm.args] at hh ⊢
   refine ⟨?_,?_,?_,?_,?_,?_,?_⟩
   ·rw [Tm.size,Tm.size,b1]
   ·rw [Tm.depth,Tm.depth,b2]
   ·rw [Tm.good] at hg ⊢
    rw [ao,b3]
    simp only [aD] at hg ⊢
    exact ⟨hg.1,trivial⟩
   ·rw [Tm.known,Tm.known,ao,b4]
   ·rw [Tm.jo,Tm.jo,b5]
   ·rw [Tm.mj,Tm.mj,if_neg h1,if_neg h1,b6]
   ·refine ⟨?_,b7⟩
    have:=hh
    unfold n8;omega
theorem SU (hr:qa r p) (g:List Sy):∀ ts:List Tm,(∀ t∈ts,t.good=true)→(∀ t∈ts,t.iG p)→Tm.bG (ts.map (Tm.rn r))=Tm.bG ts∧Tm.iz (ts.map (Tm.rn r))=Tm.iz ts∧Tm.fT (ts.map (Tm.rn r))=true∧Tm.gM g (ts.map (Tm.rn r))=Tm.gM g ts∧Tm.jq g (ts.map (Tm.rn r))=Tm.jq g ts∧(∀ n,Tm.pR g (ts.map (Tm.rn r)) n=Tm.pR g ts n)∧Tm.fits (ts.map (Tm.rn r))
 | [],_,_=>⟨rfl,rfl,rfl,rfl,rfl,fun _=>rfl,trivial⟩
 | t :: ts,hg,hv=>by
  obtain ⟨a1,a2,a3,a4,a5,a6,a7⟩:=E8 hr g t (hg t (by simp)) (hv t (by simp))
  obtain ⟨b1,b2,b3,b4,b5,b6,b7⟩:=SU hr g ts (fun x hx=>hg x (by simp [hx])) (fun x hx=>hv x (by simp [hx]))
  have sR:=K8 hr g t (hv t (by simp))
  rw [aI]
  refine ⟨?_,?_,?_,?_,?_,fun n=>?_,a7,b7⟩
  ·rw [Tm.bG,Tm.bG,a1,b1]
  ·rw [Tm.iz,Tm.iz,a2,b2]
  ·rw [Tm.fT,a3,b3];rfl
  ·rw [Tm.gM,Tm.gM,a4,b4]
  ·rw [Tm.jq,Tm.jq,a5,b5,sR]
  ·rw [Tm.pR,Tm.pR,a6,b6]
end
end
theorem Ye {l u:Tm} (hl:l.check=0) (hu:u.check=0) (fl:l.fit) (fu:u.fit):(gG [l] [u]).2.1=true↔∃ s:Int→Tm,l.ap s=u:=by
 obtain ⟨_,_,_,m4⟩:=H5 hl hu fl fu
 constructor
 ·intro h
  have:=(m4 h).2.1
  rw [Cu] at this
  exact ⟨_,this⟩
 ·rintro ⟨s,h⟩
  obtain ⟨m',h4,_⟩:=TJ (f:=s) [(l,u)] [] (fun x hx=>by rw [aQ.1 hx];exact h) (fun b hb=>by cases hb)
  unfold gG
  rw [Ij hl,Ij hu,if_neg (by simp)]
  have e:(List.zip [l] [u]).reverse=[(l,u)]:=rfl
  rw [e,h4]
theorem Yv6 {s k:Int→Tm} {l r:Tm} (hl:l.good=true) (hw:within r l=true) (h:l.ap s=l.ap k):r.ap s=r.ap k:=by
 have h1:=JC l hl h
 refine Im r ?_
 rw [← Eb] at h1 ⊢
 intro v hv
 unfold within at hw
 exact h1 v (of_decide_eq_true (bp.1 hw v hv))
def Bn (g:List Sy) (c:List Li) (t y:Tm):Prop:=a_ g [py t y]=0∧t.gr g y=true∧uE g [py t y] c = -1
theorem Rl {g:List Sy} {c:List Li} {u:Un} {t:Tm} (hc:kN g c) (hl:jQ g u.l) (hr:jQ g u.r) (ht:jQ g t) (hb:fG u=false) (s:Int→Tm) :
  (u.l.ap s=t∧u.l.cA g=t.cA g∧Bn g c t (u.r.ap s))↔(u.l.ap s=t∧j5 g c u t=(u.r.ap s,true)):=by
 have xr:=hb
 unfold fG at hb
 simp only [cE,decide_eq_false_iff_not,iw] at hb
 obtain ⟨qJ,uT⟩:=hb
 have gK:=(ph hl.1).1
 have Et:=(ph ht.1).1
 have lR:=(sE gK).2.2
 have hs:=J0 ht.1
 obtain ⟨m1,m2,m3,m4⟩:=H5 gK Et hl.2 ht.2
 obtain ⟨e1,e2⟩:=Ysl (e:=⟨false,u.l,u.r⟩) (n:=0) hc hl hr ht xr rfl
 have hD:wC g ⟨false,u.l,u.r⟩ 0 t c=if u.l.head=0∨u.l.cA g≠t.cA g∨within u.r u.l=false then (t,false) else
   if (gL [u.l] [t]).2.2≠0∨(gL [u.l] [t]).2.1=false then (t,false) else
   if a_ g [py (u.l.pd (gL [u.l] [t]).1) (u.r.pd (gL [u.l] [t]).1)]≠0∧a_ g [py (u.r.pd (gL [u.l] [t]).1) (u.l.pd (gL [u.l] [t]).1)]≠0 then (t,false) else
   if (u.l.pd (gL [u.l] [t]).1).gr g (u.r.pd (gL [u.l] [t]).1)=false∨uE g [py (u.l.pd (gL [u.l] [t]).1) (u.r.pd (gL [u.l] [t]).1)] c≠-1 then (t,false) else (u.r.pd (gL [u.l] [t]).1,true):=rfl
 rw [hD] at e1 e2
 refine and_congr_right fun xY=>?_
 have hM:=(Ye gK Et hl.2 ht.2).2 ⟨s,xY⟩
 obtain ⟨k1,k2,_⟩:=m4 hM
 have k3:u.r.pd (gL [u.l] [t]).1=u.r.ap s:=by
  rw [Cu] at k2 ⊢
  exact Yv6 lR uT (k2.trans xY.symm)
 rw [k2,k3] at e1 e2
 generalize u.r.ap s=y at *
 have n3:¬ ((gL [u.l] [t]).2.2≠0∨(gL [u.l] [t]).2.1=false):=by rw [m1,m3,hM];simp
 by_cases c1:u.l.cA g=t.cA g
 ·have n1:¬ (u.l.head=0∨u.l.cA g≠t.cA g∨within u.r u.l=false):=by
   rintro (h | h | h)
   ·exact qJ h
   ·exact h c1
   ·rw [uT] at h;cases h
  rw [if_neg n1,if_neg n3] at e1 e2
  have hh:t.cA g=true→t.head≠0:=fun sR h0=>by
   rw [← c1] at sR
   have hh:¬ u.l.head<0:=by
    unfold Tm.cA at sR
    simp only [aD,decide_eq_true_eq] at sR
    omega
   rw [← xY,En hh] at h0
   exact qJ h0
  by_cases c2:a_ g [py t y]=0
  ·rw [if_neg (fun h=>h.1 c2)] at e1 e2
   constructor
   ·rintro ⟨_,_,a2,a3⟩
    have n4:¬ (t.gr g y=false∨uE g [py t y] c≠-1):=by
     rintro (h | h)
     ·rw [a2] at h;cases h
     ·exact h a3
    rw [if_neg n4] at e1 e2
    have e3:=e2 e1.symm
    exact Prod.ext e3.symm e1.symm
   ·intro h
    rw [h] at e1
    simp only at e1
    split at e1
    ·cases e1
    ·rename_i n4
     refine ⟨c1,c2,?_,?_⟩
     ·cases hg:t.gr g y with
      | true=>rfl
      | false=>exact absurd (.inl hg) n4
     ·by_cases h3:uE g [py t y] c = -1
      ·exact h3
      ·exact absurd (.inr h3) n4
  ·have c3:a_ g [py y t]≠0:=fun h=>c2 (TH hs hh h)
   rw [if_pos ⟨c2,c3⟩] at e1 e2
   constructor
   ·rintro ⟨_,a1,_⟩;exact absurd a1 c2
   ·intro h;rw [h] at e1;cases e1
 ·have n1:u.l.head=0∨u.l.cA g≠t.cA g∨within u.r u.l=false:=.inr (.inl c1)
  rw [if_pos n1] at e1
  constructor
  ·rintro ⟨h,_⟩;exact absurd h c1
  ·intro h;rw [h] at e1;cases e1
theorem S_ {g:List Sy} {c:List Li} {u:Un} {t:Tm} (hc:kN g c) (hl:jQ g u.l) (hr:jQ g u.r) (ht:jQ g t) (hb:fG u=false):(j5 g c u t).2=true↔∃ s:Int→Tm,u.l.ap s=t∧u.l.cA g=t.cA g∧Bn g c t (u.r.ap s):=by
 constructor
 ·intro h
  obtain ⟨s,h1,h2,_⟩:=Ylo hl hr ht hb h
  exact ⟨s,(Rl hc hl hr ht hb s).2 ⟨h1,Prod.ext h2 h⟩⟩
 ·rintro ⟨s,h⟩
  rw [((Rl hc hl hr ht hb s).1 h).2]
section
variable {α:Type} {same gt : α→α→Bool} {P : α→Prop} {f : α→α}
end
def Li.rn (r:Int→Int) (l:Li):Li:=⟨l.neg,l.l.rn r,l.r.rn r⟩
def BV (r:Int→Int) (c:List Li):List Li:=c.map (Li.rn r)
def G8 (p:Int→Prop) (t:Tm):Prop:=t.good=true∧t.iG p
def AP (p:Int→Prop) (l:Li):Prop:=G8 p l.l∧G8 p l.r
section
variable {r:Int→Int} {p:Int→Prop}
theorem ZC (hr:qa r p) {t:Tm} (h:G8 p t):(t.rn r).check=t.check:=by
 obtain ⟨a1,a2,a3,_⟩:=E8 hr [] t h.1 h.2
 unfold Tm.check
 rw [a1,a2,a3,h.1]
theorem OW (hr:qa r p) (g:List Sy) {t:Tm} (h:G8 p t):(t.rn r).term g=t.term g:=by
 obtain ⟨_,_,_,a4,a5,_⟩:=E8 hr g t h.1 h.2
 unfold Tm.term
 rw [ZC hr h,a4,a5]
theorem Yln (hr:qa r p) {t:Tm} (h:G8 p t):(t.rn r).head=0↔t.head=0:=by
 by_cases h1:t.head<0
 ·have:=(Rx hr h.2).2 h1
  constructor<;>intro<;>omega
 ·rw [(LB h1).1]
theorem Yzq (hr:qa r p) (g:List Sy) {l:Li} (h:AP p l):(l.rn r).check g=l.check g:=by
 unfold Li.check Li.rn
 simp only [OW hr g h.1,OW hr g h.2,K8 hr g _ h.1.2,K8 hr g _ h.2.2,Yln hr h.2,ne_eq]
theorem Pe (hr:qa r p) (g:List Sy):∀ {c:List Li},(∀ l∈c,AP p l)→dC g (BV r c)=dC g c
 | [],_=>rfl
 | l :: c,h=>by
  rw [show BV r (l :: c)=l.rn r :: BV r c from rfl,dC,dC,Yzq hr g (h l (by simp)),Pe hr g fun x hx=>h x (by simp [hx])]
theorem XK (hr:qa r p) (g:List Sy) {c:List Li} (h:∀ l∈c,AP p l):a_ g (BV r c)=a_ g c:=by
 unfold a_
 rw [Pe hr g h]
 simp [BV]
theorem Yr2 {g:List Sy} {c:List Li} (h:kN g c) (hp:Aa p c):∀ l∈c,AP p l:=fun l hl=>by
 obtain ⟨a1,a2⟩:=uP h hl
 exact ⟨⟨(sE (ph a1.1).1).2.2,(hp l hl).1⟩,(sE (ph a2.1).1).2.2,(hp l hl).2⟩
theorem Yxn (hr:qa r p) {g:List Sy} {c:List Li} (h:kN g c) (hp:Aa p c):kN g (BV r c):=by
 have hk:=Yr2 h hp
 refine ⟨by rw [XK hr g hk];exact h.1,fun l hl=>?_⟩
 obtain ⟨x,hx,rfl⟩:=bW.1 hl
 exact ⟨(E8 hr g _ (hk x hx).1.1 (hk x hx).1.2).2.2.2.2.2.2,(E8 hr g _ (hk x hx).2.1 (hk x hx).2.2).2.2.2.2.2.2⟩
end
theorem Yvd (g:List Sy) (t u:Tm):t.gr g u=true↔gp t u=true∧(u.mj g<t.mj g∨(t.mj g=u.mj g∧0≤t.head∧0≤u.head∧(u.head<t.head∨(t.head=u.head∧Tm.rO g t.args u.args=true)))):=by
 rw [JH]
 cases h1:gp t u with
 | false=>simp
 | true =>
  rw [if_neg (by simp)]
  by_cases h2:t.mj g=u.mj g
  ·rw [if_neg (fun k=>k h2)]
   by_cases h3:t.head<0∨u.head<0
   ·rw [if_pos h3]
    constructor
    ·intro h;cases h
    ·rintro ⟨_,h | h⟩
     ·omega
     ·omega
   ·rw [if_neg h3]
    by_cases h4:t.head=u.head
    ·rw [if_neg (fun k=>k h4)]
     constructor
     ·intro h;exact ⟨rfl, .inr ⟨h2,by omega,by omega, .inr ⟨h4,h⟩⟩⟩
     ·rintro ⟨_,h | ⟨_,_,_,h | h⟩⟩
      ·omega
      ·omega
      ·exact h.2
    ·rw [if_pos h4,decide_eq_true_eq]
     constructor
     ·intro h;exact ⟨rfl, .inr ⟨h2,by omega,by omega, .inl h⟩⟩
     ·rintro ⟨_,h | ⟨_,_,_,h | h⟩⟩
      ·omega
      ·exact h
      ·exact absurd h.1 h4
  ·rw [if_pos h2,decide_eq_true_eq]
   constructor
   ·intro h;exact ⟨rfl, .inl h⟩
   ·rintro ⟨_,h | h⟩
    ·exact h
    ·exact absurd h.1 h2
mutual
theorem Uw (g:List Sy):∀ t u v:Tm,t.gr g u=true→u.gr g v=true→t.gr g v=true
 | .mk h ts,u,v,h1,h2=>by
  have h0:=fun us vs=>SI g ts us vs
  rw [Yvd] at h1 h2 ⊢
  obtain ⟨a1,a2⟩:=h1
  obtain ⟨b1,b2⟩:=h2
  refine ⟨?_,?_⟩
  ·rw [Km] at a1 b1 ⊢
   exact fun w hw=>cR (b1 w hw) (a1 w hw)
  ·rcases a2 with a2 | ⟨a2,a3,a4,a5⟩<;>rcases b2 with b2 | ⟨b2,b3,b4,b5⟩
   ·exact .inl (by omega)
   ·exact .inl (by omega)
   ·exact .inl (by omega)
   ·refine .inr ⟨by omega,a3,b4,?_⟩
    rcases a5 with a5 | ⟨a5,a6⟩<;>rcases b5 with b5 | ⟨b5,b6⟩
    ·exact .inl (by omega)
    ·exact .inl (by omega)
    ·exact .inl (by omega)
    ·exact .inr ⟨by omega,h0 _ _ a6 b6⟩
theorem SI (g:List Sy):∀ ts us vs:List Tm,Tm.rO g ts us=true→Tm.rO g us vs=true→Tm.rO g ts vs=true
 | [],us,vs,h1,_=>by rw [Tm.rO] at h1;cases h1
 | t :: ts,[],vs,h1,_=>by rw [Tm.rO] at h1;cases h1
 | t :: ts,u :: us,[],_,h2=>by rw [Tm.rO] at h2;cases h2
 | t :: ts,u :: us,v :: vs,h1,h2=>by
  rw [Tm.rO] at h1 h2 ⊢
  by_cases e1:t=u
  ·rw [if_pos e1] at h1
   by_cases e2:u=v
   ·rw [if_pos e2] at h2
    rw [if_pos (e1.trans e2)]
    exact SI g ts us vs h1 h2
   ·rw [if_neg e2] at h2
    rw [if_neg (by rw [e1];exact e2),e1]
    exact h2
  ·rw [if_neg e1] at h1
   by_cases e2:u=v
   ·rw [← e2,if_neg e1];exact h1
   ·rw [if_neg e2] at h2
    have h3:=Uw g t u v h1 h2
    have h4:t≠v:=fun e=>by
     rw [← e,Pm] at h3;cases h3
    rw [if_neg h4];exact h3
end
section
variable {α:Type} {same gt : α→α→Bool}
theorem PN (hi:∀ x,gt x x=false) (ht:∀ x y z,gt x y=true→gt y z=true→gt x z=true):∀ l:List α,l≠[]→∃ m∈l, ∀ z∈l,gt z m=false
 | [],h=>absurd rfl h
 | [a],_=>⟨a,by simp,fun z hz=>by rw [aQ.1 hz];exact hi a⟩
 | a :: b :: l,_=>by
  obtain ⟨m,h1,h2⟩:=PN hi ht (b :: l) (by simp)
  cases hg:gt a m with
  | true =>
   refine ⟨a,by simp,fun z hz=>?_⟩
   rcases aP.1 hz with rfl | hz
   ·exact hi _
   ·cases rI:gt z a with
    | false=>rfl
    | true =>
     have:=h2 z hz
     rw [ht z a m rI hg] at this;cases this
  | false =>
   refine ⟨m,by simp [h1],fun z hz=>?_⟩
   rcases aP.1 hz with rfl | hz
   ·exact hg
   ·exact h2 z hz
theorem Ymd (hi:∀ x,gt x x=false) (ht:∀ x y z,gt x y=true→gt y z=true→gt x z=true) {a b:List α} (h1:pO gt a b=true) (h2:pO gt b a=true):False:=by
 unfold pO at h1 h2
 rw [aD,bp,decide_eq_true_eq] at h1 h2
 obtain ⟨m,k1,k2⟩:=PN hi ht (a++b) (fun e=>by have h3:=h1.2;rw [(List.append_eq_nil_iff.1 e).1] at h3;exact absurd h3 (by simp))
 rcases aX.1 k1 with k1 | k1
 ·obtain ⟨x,e1,e2⟩:=er.1 (h2.1 m k1)
  rw [k2 x (lh _ e1)] at e2;cases e2
 ·obtain ⟨x,e1,e2⟩:=er.1 (h1.1 m k1)
  rw [k2 x (gA _ e1)] at e2;cases e2
theorem PS {a b:List α} (h:vJ same gt a b=1):pO gt (dz same a b) (dz same b a)=true:=by
 unfold vJ at h
 simp only [Bg] at h
 split at h
 ·omega
 split at h
 ·assumption
 split at h
 ·omega
 ·omega
theorem Wi {a b:List α} (h:vJ same gt a b = -1):pO gt (dz same b a) (dz same a b)=true:=by
 unfold vJ at h
 simp only [Bg] at h
 split at h
 ·omega
 split at h
 ·omega
 split at h
 ·assumption
 ·omega
theorem Yry (h:oF same) (hg:xC same gt) (ha:∀ x y,gt x y=true→gt y x=false) {e : α} {c c':List α} (hs:∀ x,dQ same x c'≤dQ same x c) (hm:vJ same gt [e] c' = -1):vJ same gt [e] c = -1:=by
 have hm:=Wi hm
 rw [Cp h hg] at hm
 obtain ⟨m1,x1,m2⟩:=hm
 simp only [za h] at m1 m2
 have o1:pO gt (dz same c [e]) (dz same [e] c)=true:=by
  rw [Cp h hg]
  simp only [za h]
  refine ⟨fun y hy=>?_,x1,?_⟩
  ·have:=hs y
   obtain ⟨x,k1,k2⟩:=m1 y (by omega)
   have:=hs x
   exact ⟨x,by omega,k2⟩
  ·have:=hs x1;omega
 have o2:¬ pO gt (dz same [e] c) (dz same c [e])=true:=by
  rw [Cp h hg]
  simp only [za h]
  rintro ⟨n1,x0,n2⟩
  have Dr:∀ z,0<dQ same z [e] - dQ same z c→same z e=true:=fun z hz=>by
   by_cases BR:same z e=true
   ·exact BR
   ·simp only [dQ,if_neg BR] at hz;omega
  have:=hs x0
  obtain ⟨x,k1,k2⟩:=m1 x0 (by omega)
  have:=hs x
  obtain ⟨w,k3,k4⟩:=n1 x (by omega)
  have k5:=h.trans _ _ _ (Dr w k3) (h.symm _ _ (Dr x0 n2))
  rw [hg w x0 x x k5 (h.refl _)] at k4
  rw [ha x x0 k2] at k4;cases k4
 have o3:¬ (dz same [e] c).length+(dz same c [e]).length=0:=by
  rw [Ls h]
  intro k
  have k:=(k x1).2
  rw [za h] at k
  have:=hs x1
  omega
 unfold vJ
 simp only [Bg]
 rw [if_neg o3,if_neg o2,if_pos o1]
end
theorem Z9 (g:List Sy) (x y:Li) (h:decide (AX g x y=1)=true):decide (AX g y x=1)=false:=by
 simp only [decide_eq_true_eq,decide_eq_false_iff_not] at h ⊢
 intro k
 exact Ymd (Pm g) (Uw g) (PS h) (PS k)
def AY (d c:List Li):Prop:=(∀ x,dQ eV x d≤dQ eV x c)∧∀ l∈d,l∈c
theorem Yku {g:List Sy} {c d:List Li} {u:Un} {t:Tm} (hs:AY d c) (hc:kN g c) (hd:kN g d) (hl:jQ g u.l) (hr:jQ g u.r) (ht:jQ g t) (hb:fG u=false) (h:(j5 g d u t).2=true):(j5 g c u t).2=true:=by
 obtain ⟨s,h1,h2,h3,h4,h5⟩:=(S_ hd hl hr ht hb).1 h
 exact (S_ hc hl hr ht hb).2 ⟨s,h1,h2,h3,h4,Yry Zo (Yjv g) (Z9 g) hs.1 h5⟩
theorem JZ {T:Un→mG→Tm×Bool} {s:mG}:∀ {us:List Un},eN T s us=none↔∀ u∈us,(T u s).2=false
 | []=>by simp [eN]
 | u :: us=>by
  rw [eN]
  cases h:(T u s).2 with
  | true=>simp [h]
  | false =>
   rw [if_neg (by simp),JZ]
   constructor
   ·intro k x hx
    rcases aP.1 hx with rfl | hx
    ·exact h
    ·exact k x hx
   ·intro k x hx;exact k x (by simp [hx])
theorem Qx {T:Un→mG→Tm×Bool} {us:List Un}:∀ {ss:List mG},gj T us ss=none↔∀ s∈ss, ∀ u∈us,(T u s).2=false
 | []=>by simp [gj]
 | s :: ss=>by
  rw [gj]
  cases h:eN T s us with
  | some x =>
   constructor
   ·intro k;cases k
   ·intro k
    rw [JZ.2 (k s (by simp))] at h;cases h
  | none =>
   simp only
   rw [Qx]
   constructor
   ·intro k x hx
    rcases aP.1 hx with rfl | hx
    ·exact JZ.1 h
    ·exact k x hx
   ·intro k x hx;exact k x (by simp [hx])
theorem KK:∀ (c:List Li) (i:Nat) (s:mG),s∈cG c i↔∃ (j:Nat) (h:j<c.length),s∈kI (i+j) c[j]
 | [],i,s=>by simp [cG]
 | l :: c,i,s=>by
  rw [cG,aX,KK c (i+1) s]
  constructor
  ·rintro (h | ⟨j,hj,h⟩)
   ·exact ⟨0,by simp,by simpa using h⟩
   ·exact ⟨j+1,by simpa using hj,by rw [show i+(j+1)=i+1+j by omega];simpa using h⟩
  ·rintro ⟨j,hj,h⟩
   cases j with
   | zero=>exact .inl (by simpa using h)
   | succ j=>exact .inr ⟨j,by simpa using hj,by rw [show i+1+j=i+(j+1) by omega];simpa using h⟩
theorem Zzr {i k:Nat} {l:Li} {s:mG} (h:s∈kI i l):∃ s'∈kI k l,s'.t=s.t:=by
 unfold kI cU at h ⊢
 rcases aX.1 h with h | h<;>obtain ⟨q,hq,rfl⟩:=bW.1 h
 ·exact ⟨_,gA _ (bW.2 ⟨q,hq,rfl⟩),rfl⟩
 ·exact ⟨_,lh _ (bW.2 ⟨q,hq,rfl⟩),rfl⟩
theorem X3 {d c:List Li} (hs:∀ l∈d,l∈c) {s:mG} (h:s∈cG d 0):∃ s'∈cG c 0,s'.t=s.t:=by
 obtain ⟨j,hj,h1⟩:=(KK d 0 s).1 h
 obtain ⟨k,hk,e⟩:=lJ.1 (hs _ (aF hj))
 rw [← e] at h1
 obtain ⟨s',h2,h3⟩:=Zzr (k:=0+k) h1
 exact ⟨s',(KK c 0 s').2 ⟨k,hk,h2⟩,h3⟩
def calm (g:List Sy) (us:List Un) (c:List Li):Prop:=gj (TT g c) us (cG c 0)=none
theorem Tr {g:List Sy} {us:List Un} {c d:List Li} (hs:AY d c) (hc:kN g c) (hd:kN g d) (hu:∀ u∈us,fG u=false∧jQ g u.l∧jQ g u.r) (h:calm g us c):calm g us d:=by
 unfold calm at h ⊢
 rw [Qx] at h ⊢
 intro s uv u uV
 obtain ⟨s',h1,h2⟩:=X3 hs.2 uv
 obtain ⟨b1,b2,b3⟩:=hu u uV
 cases hb:(TT g d u s).2 with
 | false=>rfl
 | true =>
  have:=Yku hs hc hd b2 b3 (Yme hd s uv) b1 hb
  have k:=h s' h1 u uV
  unfold TT at k
  rw [h2,this] at k;cases k
theorem Y8 {g:List Sy} {us:List Un} {c:List Li}:calm g us c↔((de g us c).2.2.2=0∧(de g us c).2.2.1=false):=by
 unfold calm de kQ
 cases h:gj (TT g c) us (cG c 0) with
 | none=>simp
 | some x =>
  constructor
  ·intro k;cases k
  ·rintro ⟨k1,k2⟩
   simp only at k1 k2
   split at k2
   ·cases k2
   ·rename_i hc;rw [if_neg hc] at k1;exact absurd k1 hc
theorem Kj {g:List Sy} {es:List (List Li)} {c:List Li} (hw:cB g (c :: es)=0):calm g (cM es) c↔(cx g es c).2.2=0∧(cx g es c).2.1=[]:=by
 have e1:cx g es c=dM (de g (cM es)) 201 c []:=by unfold cx fQ;exact if_neg (fun k=>k hw)
 rw [Y8,e1]
 constructor
 ·rintro ⟨h1,h2⟩
  rw [dM,if_neg (fun k=>k h1),if_pos h2]
  exact ⟨rfl,rfl⟩
 ·rintro ⟨h1,h2⟩
  rw [dM] at h1 h2
  by_cases h3:(de g (cM es) c).2.2.2=0
  ·rw [if_neg (fun k=>k h3)] at h1 h2
   refine ⟨h3,?_⟩
   by_cases h4:(de g (cM es) c).2.2.1=false
   ·exact h4
   ·rw [if_neg h4] at h1 h2
    split at h1
    ·cases h1
    ·rename_i h5
     rw [if_neg h5] at h2
     have:=(Lh (P:=fun _=>True) (fun _ _ _ _=>trivial) 200 _ _ trivial h1).2.2.2.1
     rw [h2] at this
     simp at this
  ·rw [if_pos h3] at h1;exact absurd h1 h3
theorem YY {g:List Sy} {es:List (List Li)} {c:List Li} (h:rf es c) (h0:(cx g es c).2.2=0):calm g (cM es) (cx g es c).1:=by
 obtain ⟨hw,hx,e,_⟩:=KQ h h0
 have re:cB g ((cx g es c).1 :: es)=0:=by
  rw [cB,if_neg (fun k=>k hx.1)]
  rw [cB] at hw
  split at hw
  ·rename_i h3;exact absurd hw h3
  ·exact hw
 rw [Kj re,e]
 exact ⟨rfl,rfl⟩
def np (l:Li):Bool:=decide (l.l=l.r)
def vM (a b:Li):Bool:=decide (a.neg≠b.neg)&&pB a b
def iU:List Li→List Li→List Li
 | out,[]=>out
 | out,l :: c=>if ((out.any fun m=>eV l m)||(l.neg&&np l))=true then iU out c else iU (out++[l]) c
def ia (c:List Li):List Li:=iU [] c
def sx:List Li→List Li→Bool
 | _,[]=>false
 | b,l :: c=>if ((b.any fun m=>vM l m)||(!l.neg&&np l))=true then true else sx (b++[l]) c
def nk (c:List Li):Bool:=sx [] c
def n6 (b:List Bd) (p t:Tm):Option (List Bd):=gV [(p,t)] b
def mC (l:Li):Bool:=decide (l.l.head=0)||decide (l.r.head=0)
def lb (b:List Bd) (a:Li) (x y:Tm) (F:List Bd→Bool):Bool:=match n6 b a.l x with
 | none=>false
 | some m=>match n6 m a.r y with
  | none=>false
  | some k=>F k
def nt (b:List Bd) (a l:Li) (F:List Bd→Bool):Bool:=if mC a≠mC l then false else lb b a l.l l.r F||lb b a l.r l.l F
def lP:Li:=⟨false,gT,gT⟩
def pn (d:List Li):List Li→List Bool→List Bd→Bool
 | [],_,_=>true
 | a :: c,us,b=>(List.range d.length).any fun k=>!us.getD k false&&decide ((d.getD k lP).neg=a.neg)&&nt b a (d.getD k lP) fun m=>pn d c (us.set k true) m
def rU (l:Li):Bool:=decide (l.l.check≠0)||decide (l.r.check≠0)
def kb (c d:List Li):Int:=if 32<c.length∨32<d.length then 2 else if (c.any rU||d.any rU)=true then 1 else 0
def jl (d:List Li):List Bool:=List.replicate d.length false
def yW (c d:List Li):Bool:=decide (c.length≤d.length)&&pn d c (jl d) []
def sw (c d:List Li):Bool×Int:=if kb c d≠0 then (false,kb c d) else (yW c d,0)
def cutAt (c d:List Li) (k i:Nat):Bool:=decide ((c.getD i lP).neg≠(d.getD k lP).neg)&&nt [] (c.getD i lP) (d.getD k lP) fun m=>pn d (c.eraseIdx i) ((jl d).set k true) m
def vg (c d:List Li):Option Nat:=(List.range d.length).find? fun k=>(List.range c.length).any fun i=>cutAt c d k i
def mW (c d:List Li):Int×Bool×Int:=if kb c d≠0 then (0,false,kb c d) else match vg c d with
 | some k=>((k:Int),true,0)
 | none=>(0,false,0)
theorem Kl:∀ (c out:List Li), ∀ x∈iU out c,x∈out∨x∈c
 | [],out,x,h=>.inl (by rw [iU] at h;exact h)
 | a :: c,out,x,h=>by
  rw [iU] at h
  split at h
  ·exact (Kl c out x h).imp id (cq _)
  ·rcases Kl c _ x h with h | h
   ·rcases aX.1 h with h | h
    ·exact .inl h
    ·rw [aQ.1 h];exact .inr (by simp)
   ·exact .inr (cq _ h)
theorem UL {α:Type} (same : α→α→Bool) (x : α):∀ a b:List α,dQ same x (a++b)=dQ same x a+dQ same x b
 | [],b=>by rw [bf,dQ];omega
 | y :: a,b=>by rw [bj,dQ,dQ,UL same x a b];omega
theorem Kf (x:Li):∀ (c out:List Li),dQ eV x (iU out c)≤dQ eV x out+dQ eV x c
 | [],out=>by rw [iU,dQ];exact ah _
 | a :: c,out=>by
  rw [iU]
  split
  ·have:=Kf x c out;rw [dQ];omega
  ·have:=Kf x c (out++[a]);rw [UL] at this;simp only [dQ] at this ⊢;omega
theorem Kq:∀ (c out:List Li),(iU out c).length≤out.length+c.length
 | [],out=>by rw [iU];simp
 | a :: c,out=>by
  rw [iU]
  split
  ·have:=Kq c out;rw [au];omega
  ·have:=Kq c (out++[a]);rw [ay] at this;simp only [au,aR] at this ⊢;omega
theorem T7 (c:List Li):AY (ia c) c:=by
 refine ⟨fun x=>?_,fun l hl=>?_⟩
 ·have:=Kf x c [];rw [dQ] at this;unfold ia;omega
 ·rcases Kl c [] l hl with h | h
  ·cases h
  ·exact h
theorem TX (c:List Li):(ia c).length≤c.length:=by have:=Kq c [];unfold ia;simpa using this
def pg:List Li→Prop
 | []=>True
 | l :: c=>(l.neg&&np l)=false∧(∀ m∈c,eV m l=false)∧pg c
theorem Uh:∀ a b:List Li,pg (a++b)↔pg a∧pg b∧∀ x∈a, ∀ y∈b,eV y x=false
 | [],b=>by simp [pg]
 | l :: a,b=>by
  rw [bj,pg,pg,Uh a b]
  constructor
  ·rintro ⟨h1,h2,h3,h4,h5⟩
   refine ⟨⟨h1,fun m hm=>h2 m (gA _ hm),h3⟩,h4,fun x hx y hy=>?_⟩
   rcases aP.1 hx with rfl | hx
   ·exact h2 y (lh _ hy)
   ·exact h5 x hx y hy
  ·rintro ⟨⟨h1,h2,h3⟩,h4,h5⟩
   refine ⟨h1,fun m hm=>?_,h3,h4,fun x hx y hy=>h5 x (cq _ hx) y hy⟩
   rcases aX.1 hm with hm | hm
   ·exact h2 m hm
   ·exact h5 l (by simp) m hm
theorem Kb:∀ (c out:List Li),pg out→pg (iU out c)
 | [],out,h=>by rw [iU];exact h
 | a :: c,out,h=>by
  rw [iU]
  split
  ·exact Kb c out h
  ·rename_i hn
   simp only [b9,not_or,dj] at hn
   refine Kb c _ ((Uh out [a]).2 ⟨h,⟨hn.2,fun m hm=>(by cases hm),trivial⟩,fun x hx y hy=>?_⟩)
   rw [aQ.1 hy]
   cases hs:eV a x with
   | false=>rfl
   | true =>
    have:=er.2 ⟨x,hx,hs⟩
    rw [hn.1] at this;cases this
theorem RV (c:List Li):pg (ia c):=Kb c [] trivial
theorem Q8:∀ {c:List Li} (k:Nat),pg c→pg (c.eraseIdx k)
 | [],k,h=>by simpa using h
 | l :: c,0,h=>by rw [List.eraseIdx_cons_zero];exact h.2.2
 | l :: c,k+1,h=>by
  rw [List.eraseIdx_cons_succ]
  exact ⟨h.1,fun m hm=>h.2.1 m (n9 hm),Q8 k h.2.2⟩
theorem S7 (c:List Li) (k:Nat):AY (c.eraseIdx k) c:=by
 refine ⟨fun x=>?_,fun l hl=>n9 hl⟩
 induction c generalizing k with
 | nil=>simp
 | cons a c ih =>
  cases k with
  | zero=>rw [List.eraseIdx_cons_zero,dQ];omega
  | succ k=>rw [List.eraseIdx_cons_succ,dQ,dQ];have:=ih k;omega
theorem Ob {g:List Sy} {d c:List Li} (hs:∀ l∈d,l∈c) (hl:d.length≤c.length) (hc:kN g c):kN g d:=by
 refine ⟨?_,fun l h=>hc.2 l (hs l h)⟩
 obtain ⟨h1,h2,h3⟩:=zG hc.1
 unfold a_
 rw [if_neg (by rw [h1];simp),if_neg (by omega)]
 have key:∀ c:List Li,(∀ l∈c,l.check g=0)→dC g c=0:=by
  intro c
  induction c with
  | nil=>intro _;rfl
  | cons a c ih =>
   intro h
   rw [dC,if_neg (fun k=>k (h a (by simp)))]
   exact ih fun l hl=>h l (by simp [hl])
 exact key d fun l h=>h3 l (hs l h)
theorem OO {g:List Sy} {c:List Li} (hc:kN g c):kN g (ia c):=Ob (T7 c).2 (TX c) hc
theorem Z0 {g:List Sy} {c:List Li} (k:Nat) (hc:kN g c):kN g (c.eraseIdx k):=Ob (S7 c k).2 (List.length_eraseIdx_le _ _) hc
end Go.Proofs
namespace Go.Proofs
open Go Go.cV
attribute [local go_sem] Nat.reduceAdd Nat.reduceSub Nat.reduceMul Nat.reduceLeDiff Nat.reduceEqDiff Nat.reduceBEq Nat.reduceLT Nat.le_refl Int.natCast_zero Nat.sub_zero List.length_map Int.toNat_natCast Int.natCast_one Int.reduceEq Int.reduceLT Int.reduceLE Int.reduceNe Int.sub_zero Int.zero_add Int.toNat_one
theorem Yo5 (l:Li) (h1:l.l.size<999999999) (h2:l.r.size<999999999):aJ Tryz.prog 89 [l.aN] (.bool (rU l)):=by
 refine aJ.begin (rs:=[.tmp 2]) (m:=12) 1000 Tryz.func89 rfl rfl rfl (by decide) trivial ?_
 have c1:=Ch l.l h1
 have c2:=Ch l.r h2
 unfold rU
 simp only [go_sem,ku]
 refine aq.bU [] (c1) (by (try simp only [dc]);exact cH _ _ _) (by simp [go_sem,dE,bP]) ?_;simp only [bL,bZ,bX,if_true];refine aK.go 1000 ?_
 by_cases e1:l.l.check=0
 ·simp only [go_sem,e1]
  refine aq.bU [] (c2) (by (try simp only [dc]);exact cH _ _ _) (by simp [go_sem,dE,bP]) ?_;simp only [bL,bZ,bX,if_true];refine aK.go 1000 ?_
  by_cases e2:l.r.check=0
  ·simp only [go_sem,e2]
  ·simp only [go_sem,e2]
 ·simp only [go_sem,e1]
theorem TB (l:Li):aJ Tryz.prog 131 [l.aN] (.bool (mC l)):=by
 refine aJ.begin (rs:=[.tmp 2]) (m:=12) 1000 Tryz.func131 rfl rfl rfl (by decide) trivial ?_
 unfold mC
 by_cases e1:l.l.head=0
 ·simp only [go_sem,ku,e1]
 ·by_cases e2:l.r.head=0
  ·simp only [go_sem,ku,e1,e2]
  ·simp only [go_sem,ku,e1,e2]
def rz (L:List (List Li)):Int:=if (L.any fun c=>decide (32<c.length))=true then 2 else if (L.any fun c=>c.any rU)=true then 1 else 0
theorem Uq (c d:List Li):rz [c,d]=kb c d:=by
 unfold rz kb
 simp
def DF (c:List Li):Prop:=(∀ l∈c,l.l.size<999999999∧l.r.size<999999999)∧c.length<2 ^ 62
theorem SJ (L:List (List Li)) (hL:∀ c∈L,DF c) (hl:L.length<1000000) :
  aJ Tryz.prog 54 [.ps 1 (cP L)] (.int .i64 (rz L)):=by
 refine aJ.begin (rs:=[.tmp 2]) (m:=27) 1000 Tryz.func54 rfl rfl rfl (by decide) trivial ?_
 have hf:∀ e:List Li,DF e→aq Tryz.prog (.fn 63 [] []) [.ps 5 (lits e), .fn 89 [] []] [] (fun r σ'=>r = .bool (e.any rU)∧σ'=[]):=fun e he =>
  Hi [] _ rU e he.2 trivial (by simp [go_sem]) fun i hi=>by
   obtain ⟨a1,a2⟩:=he.1 _ (aF hi)
   refine aq.bU [] (Yo5 e[i] a1 a2) (cH _ _ _) (by simp [go_sem,mQ]) ?_
   simp only [bL,if_true]
   trivial
 obtain ⟨Y,hY⟩:∃ Y,(L.any fun c=>decide (32<c.length))=Y:=⟨_,rfl⟩
 obtain ⟨Z,hZ⟩:∃ Z,(L.any fun c=>c.any rU)=Z:=⟨_,rfl⟩
 have hW:rz L=if Y=true then 2 else if Z=true then 1 else 0:=by unfold rz;rw [hY,hZ]
 rw [hW]
 simp only [go_sem]
 refine aK.c9 (ι:={i:Nat // i≤L.length∧((L.drop i).any fun c=>decide (32<c.length))=Y}) 1000 (fun q=>fD 28 [(0, .ps 1 (cP L)),(2, .int .i64 0),(8, .ps 1 (cP L)),(9, .int .i64 L.length),(10, .int .i64 q.1)])
  (fun _=>[]) (fun q=>L.length - q.1) ⟨0,av _,by rw [dk];first | exact hY | exact hZ⟩ ?_ (fun _=>av _) ?_
 ·simp only [go_sem,eZ,mr]
 ·rintro ⟨i,hi,aO⟩
  by_cases bD:(i:Int)<L.length
  ·have aZ:i<L.length:=by omega
   have hw:IntKind.i64.wrap ((i:Int)+1)=((i+1:Nat):Int):=by rw [ep (by omega)];omega
   have g1:=y_ aZ
   rw [ak aZ,fe] at aO
   generalize L[i]=c at *
   by_cases hc:(32:Int)<c.length
   ·have qN:decide (32<c.length)=true:=by simp;omega
    rw [qN,fH] at aO
    subst aO
    rw [if_pos rfl]
    simp only [go_sem,bD,mr,g1,fO,hc]
    refine ⟨by omega,?_⟩
    refine aK.go 1000 ?_
    simp only [go_sem]
   ·have qN:decide (32<c.length)=false:=by simp;omega
    rw [qN,dq] at aO
    simp only [go_sem,bD,mr,g1,fO,hc]
    refine ⟨by omega,⟨i+1,by omega,aO⟩,?_,by simp only;omega⟩
    simp only [go_sem,eZ,hw]
  ·have dR:i=L.length:=by omega
   subst dR
   rw [aV,mF] at aO
   subst aO
   rw [if_neg (by simp)]
   simp only [go_sem,bD]
   refine aK.go 1000 ?_
   simp only [go_sem]
   refine aK.c9 (ι:={i:Nat // i≤L.length∧((L.drop i).any fun c=>c.any rU)=Z}) 1000 (fun q=>fD 28 [(2, .int .i64 0),(5, .fn 89 [] []),(18, .ps 1 (cP L)),(19, .int .i64 L.length),(20, .int .i64 q.1)])
    (fun _=>[]) (fun q=>L.length - q.1) ⟨0,av _,by rw [dk];first | exact hY | exact hZ⟩ ?_ (fun _=>av _) ?_
   ·simp only [go_sem,eZ,mr]
   ·rintro ⟨i,hi,aO⟩
    by_cases bD:(i:Int)<L.length
    ·have aZ:i<L.length:=by omega
     have hw:IntKind.i64.wrap ((i:Int)+1)=((i+1:Nat):Int):=by rw [ep (by omega)];omega
     have g1:=y_ aZ
     have hk:=hf _ (hL _ (aF aZ))
     rw [ak aZ,fe] at aO
     generalize L[i]=c at *
     simp only [go_sem,bD,mr,g1]
     refine ⟨by omega,?_⟩
     refine hk.mono ?_
     rintro r σ' ⟨rfl,rfl⟩
     cases hc:c.any rU with
     | true =>
      rw [hc,fH] at aO
      subst aO
      rw [if_pos rfl]
      refine aK.go 1000 ?_
      simp only [go_sem]
      refine aK.go 1000 ?_
      simp only [go_sem]
     | false =>
      rw [hc,dq] at aO
      refine aK.go 1000 ?_
      simp only [go_sem]
      refine ⟨⟨i+1,by omega,aO⟩,?_,by simp only;omega⟩
      simp only [go_sem,eZ,hw]
    ·have dR:i=L.length:=by omega
     subst dR
     rw [aV,mF] at aO
     subst aO
     rw [if_neg (by simp)]
     simp only [go_sem,bD]
     refine aK.go 1000 ?_
     simp only [go_sem]
theorem Yi (ks vs:List ae) (σ:ai) (hs:bt σ.length σ) (hk:bx 0 ks) (hv:bx 0 vs):aq Tryz.prog (.fn 158 [] []) [.pm ks vs] σ
  (fun r σ'=>r = .map σ.length∧σ' = σ++[some (.map ks vs false)]):=by
 have Av:∀ {n},bx n ks:=fun {n}=>ie (av n) hk
 have hvn:∀ {n},bx n vs:=fun {n}=>ie (av n) hv
 refine aq.begin (rs:=[.tmp 2]) (m:=8) 1000 Tryz.func158 rfl rfl rfl rfl rfl ?_
 simp only [go_sem]
 refine aq.w8 Tryz.func184 (by kernel_rfl) (by kernel_rfl) (by kernel_rfl) (by kernel_rfl) ?_
 refine aK.go 1000 ?_
 simp only [go_sem]
 rw [fL]
 refine ⟨_,fx _,by simp,o9 (nA (by simp) hs) ?_,?_,rfl,rfl⟩
 ·simp [go_sem,Av,hvn]
 ·simp [go_sem]
def mapA:Option (List Bd)→ae
 | none=>.cy
 | some m=>.pm (fj m) (fN m)
theorem Ylw (o:Option (List Bd)):(mapA o).low 0:=by
 cases o with
 | none=>trivial
 | some m=>exact ⟨(iE m).1,(iE m).2⟩
set_option maxHeartbeats 1000000 in
theorem Tp (b:List Bd) (p t:Tm) (hp:p.fit) (hps:p.size<99999999) (rG:t.size<99999999) (hb:∀ x∈b,x.t.size<99999999) :
  aJ Tryz.prog 132 [.pm (fj b) (fN b),p.aN,t.aN] (mapA (n6 b p t)):=by
 refine aJ.begin (rs:=[.tmp 6]) (m:=83) 1000 Tryz.func132 rfl rfl rfl (by decide) (Ylw _) ?_
 obtain ⟨g,hg⟩:∃ g,n6 b p t=g:=⟨_,rfl⟩
 rw [hg]
 unfold n6 at hg
 simp only [go_sem,fq]
 refine (Yi _ _ _ (by simp [go_sem,bP]) (iE b).1 (iE b).2).mono ?_
 rintro r σ' ⟨rfl,rfl⟩
 refine aK.go 1000 ?_
 simp only [go_sem,bj,bf,au,aR]
 refine aK.draw [⟨none,[],[4]⟩,⟨some 3,[3],[4]⟩,⟨none,[],[3]⟩,⟨some 4,[4],[3]⟩,⟨none,[],[4]⟩] 3 5 mixed rfl rfl (by decide) ?_
 simp only [go_sem,dA]
 refine aK.go 1000 ?_
 simp only [go_sem]
 have hA1:nY [(p,t)]=[.agg [.int .i64 p.head, .ps 2 (p.args.map Tm.aN)]]:=by simp [nY,dc]
 have hB1:nZ [(p,t)]=[.agg [.int .i64 t.head, .ps 2 (t.args.map Tm.aN)]]:=by simp [nZ,dc]
 refine aK.gS (ι:={q:List (Tm×Tm)×List ae×List ae×List Bd // gV q.1 q.2.2.2=g∧bx 0 q.2.1∧bx 0 q.2.2.1∧lq q.1≤p.size∧(∀ x∈q.1,x.1.fit∧x.2.size<99999999)∧(∀ x∈q.2.2.2,x.t.size<99999999)}) 1000
  (fun q=>fD 86 [(6, .cy),(7, .map 2),(8, .os 3 0 q.1.1.length 2),(9, .os 4 0 q.1.1.length 2)])
  (fun q=>[none,none,some (.map (fj q.1.2.2.2) (fN q.1.2.2.2) false),some (.row (nY q.1.1++q.1.2.1) 0),some (.row (nZ q.1.1++q.1.2.2.1) 0)]) (fun q=>lq q.1.1) ⟨([(p,t)],[],[],b),hg,trivial,trivial,by simp [lq],fun x hx=>by rw [aQ.1 hx];exact ⟨hp,rG⟩,hb⟩ [] ?_ (fun _=>by simp) ?_
 ·refine iF rfl ?_
  dsimp only
  rw [hA1,hB1]
  simp only [go_sem,iE,cz (iE _).1,cz (iE _).2,bP,cz (bP _),bn]
 ·rintro ⟨⟨s,j1,j2,m⟩,h1,h2,h3,h4,h5,h6⟩
  simp only at h1 h2 h3 h4 h5 h6
  cases s with
  | nil =>
   rw [gV] at h1
   subst h1
   simp only [go_sem,aR]
   refine aK.go 1000 ?_
   simp only [go_sem,mapA]
  | cons x r =>
   obtain ⟨GV,wj⟩:=h5 x (by simp)
   have Dj:∀ y∈r,y.1.fit∧y.2.size<99999999:=fun y hy=>h5 y (by simp [hy])
   have Nv:=LD r
   rw [lq] at h4
   have yr:=zM x.1
   have Eu:=Fi GV
   unfold n8 at Eu
   have rR:IntKind.i64.wrap ((r.length:Int)+1 - 1)=r.length:=by rw [ep (by omega)];omega
   have nG:(0:Int)<r.length+1:=by omega
   have tz:IntKind.i64.wrap (-1 - x.1.head) = -1 - x.1.head:=ep (by omega)
   have hA:nY (x :: r)++j1=nY r++x.1.aN :: j1:=by rw [US];simp
   have hB:nZ (x :: r)++j2=nZ r++x.2.aN :: j2:=by rw [UD];simp
   have MR:(nY r++x.1.aN :: j1).getD r.length .undef=x.1.aN:=by rw [← Ei r];simp [List.getD]
   have MS:(nZ r++x.2.aN :: j2).getD r.length .undef=x.2.aN:=by rw [← Eg r];simp [List.getD]
   have Gr:(nY r++x.1.aN :: j1).length=r.length+1+j1.length:=by simp [Ei];omega
   have Gs:(nZ r++x.2.aN :: j2).length=r.length+1+j2.length:=by simp [Eg];omega
   simp only [go_sem,au,hA,hB,lX,lY,nG,rR]
   refine aK.draw [⟨none,[],[5,6]⟩,⟨none,[],[5,6]⟩,⟨none,[],[5,6]⟩,⟨none,[],[5,6]⟩,⟨none,[],[5,6]⟩,⟨none,[],[5,6]⟩,⟨none,[],[5,6]⟩,⟨none,[],[5,6]⟩,⟨some 5,[5],[6]⟩,⟨some 6,[6],[5]⟩,⟨none,[5],[]⟩,⟨none,[6],[]⟩] 5 7 mixed rfl rfl (by decide) ?_
   simp only [go_sem,dA,Gr,Gs,MR,MS,fq]
   refine ⟨⟨by omega,by omega⟩,by omega,⟨by omega,by omega⟩,by omega,?_⟩
   refine aK.go 1000 ?_
   refine aK.draw [] 7 7 mixed rfl rfl (by decide) ?_
   simp only [go_sem,dA]
   refine ⟨by omega,by omega,?_⟩
   have hl:∀ n,bx n (nY r++x.1.aN :: j1)∧bx n (nZ r++x.2.aN :: j2):=fun n=>⟨rZ (of_eq_true (Ix r)) ⟨dE x.1,ie (av _) h2⟩,rZ (of_eq_true (IC r)) ⟨dE x.2,ie (av _) h3⟩⟩
   by_cases hv : 0≤-1 - x.1.head
   ·rw [gV,if_pos hv] at h1
    have oQ:=J4 m (-1 - x.1.head) (.agg [.int .i64 0, .aU])
    cases hf:m.find? (fun c=>c.v == -1 - x.1.head) with
    | some c =>
     rw [hf] at oQ h1
     simp only at h1 oQ
     have sK:=h6 c (bQ hf)
     refine aK.go 1000 ?_
     simp only [go_sem,tz,hv,y5,oQ,fq]
     refine aq.bU [] (zS c.t x.2 (by omega) (by omega)) (by (try simp only [dc]);exact cH _ _ _) (by simp [go_sem,dE,bP]) ?_;simp only [bL,bZ,bX,if_true];refine aK.go 1000 ?_
     by_cases he:c.t=x.2
     ·rw [if_pos he] at h1
      have ym:=QB (x:=.agg [.int .i64 x.2.head, .ps 2 (x.2.args.map Tm.aN)]) (by rw [he,dc]) hf
      simp only [go_sem,he,y5,ym]
      refine ⟨⟨(r,x.1.aN :: j1,x.2.aN :: j2,m),h1,⟨dE x.1,h2⟩,⟨dE x.2,h3⟩,by simp only;omega,Dj,h6⟩,[],iF rfl ?_,by simp only [lq];omega⟩
      have wW:=hl 0
      simp only [go_sem,iE,cz (iE _).1,cz (iE _).2,cz wW.1,cz wW.2,hl]
     ·rw [if_neg he] at h1
      subst h1
      simp only [go_sem,he]
      refine aK.go 1000 ?_
      simp only [go_sem,mapA]
    | none =>
     rw [hf] at oQ h1
     simp only at h1 oQ
     have ym:=Kc (l:=m) (b:=⟨-1 - x.1.head,x.2⟩) (x:=.agg [.int .i64 x.2.head, .ps 2 (x.2.args.map Tm.aN)]) (dc _).symm hf
     refine aK.go 1000 ?_
     simp only [go_sem,tz,hv,y5,oQ,fq,ym]
     refine ⟨⟨(r,x.1.aN :: j1,x.2.aN :: j2,m++[⟨-1 - x.1.head,x.2⟩]),h1,⟨dE x.1,h2⟩,⟨dE x.2,h3⟩,by simp only;omega,Dj,fun y hy=>?_⟩,[],iF rfl ?_,by simp only [lq];omega⟩
     ·rcases aX.1 hy with hy | hy
      ·exact h6 y hy
      ·rw [aQ.1 hy];exact wj
     have wW:=hl 0
     simp only [go_sem,iE,cz (iE _).1,cz (iE _).2,cz wW.1,cz wW.2,hl]
   ·rw [gV,if_neg hv] at h1
    by_cases c1:x.1.head=x.2.head
    ·by_cases c2:x.1.args.length=x.2.args.length
     ·rw [if_neg (by simp [c1,c2])] at h1
      have vF:IntKind.i64.wrap (-1 - x.2.head) = -1 - x.2.head:=by rw [← c1];exact tz
      have wg:¬ 0≤-1 - x.2.head:=by rw [← c1];exact hv
      have c3:(x.1.args.length:Int)=x.2.args.length:=by omega
      refine aK.go 1000 ?_
      simp only [go_sem,vF,wg,c1,c3,ao]
      refine aK.draw [.no, .no, .no,⟨some 7,[3,7],[]⟩,⟨none,[],[3,7]⟩,⟨none,[],[3,7]⟩,⟨none,[],[3,7]⟩,⟨some 8,[4,8],[]⟩] 7 9 mixed rfl rfl (by decide) ?_
      have NC:(nY r++x.1.aN :: j1).take r.length=nY r:=by rw [← Ei r,mN]
      have ND:(nZ r++x.2.aN :: j2).take r.length=nZ r:=by rw [← Eg r,mN]
      have Mw:=qb x.1.args
      have NB:=oA x.1
      simp only [go_sem,dA,Gr,Gs,NC,ND,ao]
      refine ⟨⟨by omega,by omega,by omega⟩,⟨by omega,by omega,by omega⟩,?_⟩
      refine aK.go 1000 ?_
      simp only [go_sem]
      have Jd:=Fa x.1 x.2 r
      refine ⟨⟨((x.1.args.zip x.2.args).reverse++r,[],[],m),h1,trivial,trivial,by simp only;omega,fun y hy=>?_,h6⟩,[(3,7),(7,3),(4,8),(8,4)],iF rfl ?_,by simp only [lq];omega⟩
      ·rcases aX.1 hy with hy | hy
       ·have hy:=cX.1 hy
        have a1:=tb (c_ hy).2
        have a2:=oA x.2
        exact ⟨wJ (xm GV) _ (c_ hy).1,by omega⟩
       ·exact Dj y hy
      dsimp only
      rw [TR c2,UT c2,show ((x.1.args.zip x.2.args).reverse++r).length=r.length+x.1.args.length by simp [c2];omega]
      have lA:∀ n,bx n (nY r++x.1.args.map Tm.aN):=fun n=>rZ (of_eq_true (Ix r)) (bP _)
      have lB:∀ n,bx n (nZ r++x.2.args.map Tm.aN):=fun n=>rZ (of_eq_true (IC r)) (bP _)
      have NW:=lA 0
      have NY:=lB 0
      simp only [go_sem,iE,cz (iE _).1,cz (iE _).2,cz NW,cz NY,lA,lB,bn,c2]
     ·rw [if_pos (.inr c2)] at h1
      have vF:IntKind.i64.wrap (-1 - x.2.head) = -1 - x.2.head:=by rw [← c1];exact tz
      have wg:¬ 0≤-1 - x.2.head:=by rw [← c1];exact hv
      have c3:¬ (x.1.args.length:Int)=x.2.args.length:=by omega
      subst h1
      refine aK.go 1000 ?_
      simp only [go_sem,vF,wg,c1,c3,ao]
      refine aK.go 1000 ?_
      simp only [go_sem,mapA]
    ·rw [if_pos (.inl c1)] at h1
     subst h1
     refine aK.go 1000 ?_
     simp only [go_sem,tz,hv,c1]
     refine aK.go 1000 ?_
     simp only [go_sem,mapA]
theorem Yzp {Q:Tm→Prop} (ha:∀ t,Q t→∀ u∈t.args,Q u):∀ (S:List (Tm×Tm)) (m:List Bd),(∀ x∈S,Q x.2)→(∀ b∈m,Q b.t)→∀ m',gV S m=some m'→∀ b∈m',Q b.t:=by
 intro S m
 induction S,m using gV.induct with
 | case1 m=>intro _ h m' e;rw [gV] at e;cases e;exact h
 | case2 x r m hv c hf he ih =>
  intro h1 h2 m' e
  rw [gV,if_pos hv,hf] at e
  simp only [if_pos he] at e
  exact ih (fun y hy=>h1 y (by simp [hy])) h2 m' e
 | case3 x r m hv c hf he =>
  intro _ _ m' e
  rw [gV,if_pos hv,hf] at e
  simp only [if_neg he] at e
  cases e
 | case4 x r m hv hf ih =>
  intro h1 h2 m' e
  rw [gV,if_pos hv,hf] at e
  refine ih (fun y hy=>h1 y (by simp [hy])) (fun b hb=>?_) m' e
  rcases aX.1 hb with hb | hb
  ·exact h2 b hb
  ·rw [aQ.1 hb];exact h1 x (by simp)
 | case5 x r m hv hc =>
  intro _ _ m' e
  rw [gV,if_neg hv,if_pos hc] at e
  cases e
 | case6 x r m hv hc ih =>
  intro h1 h2 m' e
  rw [gV,if_neg hv,if_neg hc] at e
  refine ih (fun y hy=>?_) h2 m' e
  rcases aX.1 hy with hy | hy
  ·exact ha _ (h1 x (by simp)) _ (c_ (cX.1 hy)).2
  ·exact h1 y (by simp [hy])
def Hc (m:List Bd):Prop:=∀ x∈m,x.t.size<99999999
theorem Pl {b m:List Bd} {p t:Tm} (hb:Hc b) (ht:t.size<99999999) (h:n6 b p t=some m):Hc m :=
 Yzp (Q:=fun t=>t.size<99999999) (fun t h u hu=>by have:=tb hu;have:=oA t;omega) _ _ (fun x hx=>by rw [aQ.1 hx];exact ht) hb m h
def vL (l:Li):Prop:=(l.l.fit∧l.l.size<99999999)∧l.r.fit∧l.r.size<99999999
theorem Ff:∀ (σ τ:ai),ig σ (σ++τ)
 | [],τ=>by cases τ<;>trivial
 | x :: σ,τ=>⟨.inl rfl,Ff σ τ⟩
set_option maxHeartbeats 1000000 in
theorem UQ (b0 b1 b2 b3 b4 b5 b6 b7:Option bE) (b:List Bd) (a l:Li) (D:ae) (F:List Bd→Bool) (hs:bt 8 [b0,b1,b2,b3,b4,b5,b6,b7]) (Vb:D.low 8) (hb:Hc b) (ha:vL a) (hl:vL l)
  (hD:∀ m,Hc m→aq Tryz.prog D [.pm (fj m) (fN m)] [b0,b1,b2,b3,b4,b5,b6,b7] (fun r σ'=>r = .bool (F m)∧σ'=[b0,b1,b2,b3,b4,b5,b6,b7])) :
  aq Tryz.prog (.fn 91 [] []) [.pm (fj b) (fN b),a.aN,l.aN,D] [b0,b1,b2,b3,b4,b5,b6,b7] (fun r σ'=>r = .bool (nt b a l F)∧σ'=[b0,b1,b2,b3,b4,b5,b6,b7]):=by
 have jY:∀ n,8≤n→D.low n∧bt n [b0,b1,b2,b3,b4,b5,b6,b7]:=fun n hn=>⟨mP hn Vb,nA hn hs⟩
 have ub:=jY 10 (by decide)
 have wQ:=jY 11 (by decide)
 have NA:=hs
 simp only [wF,E2,and_true] at ub wQ NA
 refine aq.begin (rs:=[.tmp 8]) (m:=52) 1000 Tryz.func91 rfl rfl rfl rfl rfl ?_
 have hend:∀ (z:Bool) (τ:ai),z=nt b a l F→my (fun r σ'=>r = .bool (nt b a l F)∧σ'=[b0,b1,b2,b3,b4,b5,b6,b7]) 8 (.bool z) ([b0,b1,b2,b3,b4,b5,b6,b7]++τ):=fun z τ hz=>by
  rw [fL]
  exact ⟨[b0,b1,b2,b3,b4,b5,b6,b7],Ff _ _,ah _,hs,trivial,by rw [hz],rfl⟩
 simp only [go_sem,ku]
 refine aK.draw [] 10 10 mixed rfl rfl (by decide) ?_
 simp only [go_sem,dA]
 refine nQ (TB a) (by simp only [Li.aN,Li.cs];exact cH _ _ _) (by simp [go_sem,mQ]) ?_
 simp only [go_sem,dA]
 refine nQ (TB l) (by simp only [Li.aN,Li.cs];exact cH _ _ _) (by simp [go_sem,mQ]) ?_
 have hW:nt b a l F=if mC a≠mC l then false else lb b a l.l l.r F||lb b a l.r l.l F:=rfl
 obtain ⟨W,I6⟩:∃ W,nt b a l F=W:=⟨_,rfl⟩
 rw [I6] at hend hW ⊢
 by_cases hk:mC a=mC l
 case neg =>
  rw [if_pos hk] at hW
  subst hW
  have qP:(mC a==mC l)=false:=by simpa using hk
  simp only [go_sem,qP]
  refine aK.go 1000 ?_
  simp only [go_sem]
  exact hend _ _ rfl
 rw [if_neg (fun k=>k hk)] at hW
 have qP:(mC a==mC l)=true:=by simpa using hk
 simp only [go_sem,qP]
 refine aK.go 1000 ?_
 simp only [go_sem,List.range_zero,bf,bj,aI,aS,fm,dn]
 have Nu:∀ i:Nat,i<2→∃ x y:Tm,([ae.agg [.int .i64 l.l.head, .ps 2 (l.l.args.map Tm.aN), .int .i64 l.r.head, .ps 2 (l.r.args.map Tm.aN)], .agg [.int .i64 l.r.head, .ps 2 (l.r.args.map Tm.aN), .int .i64 l.l.head, .ps 2 (l.l.args.map Tm.aN)]]).getD i .undef = .agg [.int .i64 x.head, .ps 2 (x.args.map Tm.aN), .int .i64 y.head, .ps 2 (y.args.map Tm.aN)] ∧
   (if i=0 then lb b a l.l l.r F||lb b a l.r l.l F else if i=1 then lb b a l.r l.l F else false)=(lb b a x y F||if i+1=0 then lb b a l.l l.r F||lb b a l.r l.l F else if i+1=1 then lb b a l.r l.l F else false)∧x.size<99999999∧y.size<99999999:=fun i hi=>by
  rcases (show i=0∨i=1 by omega) with rfl | rfl
  ·exact ⟨l.l,l.r,rfl,by simp,hl.1.2,hl.2.2⟩
  ·exact ⟨l.r,l.l,rfl,by simp,hl.2.2,hl.1.2⟩
 have h0:W=if 0=0 then lb b a l.l l.r F||lb b a l.r l.l F else if 0=1 then lb b a l.r l.l F else false:=hW
 have hRl:([ae.agg [.int .i64 l.l.head, .ps 2 (l.l.args.map Tm.aN), .int .i64 l.r.head, .ps 2 (l.r.args.map Tm.aN)], .agg [.int .i64 l.r.head, .ps 2 (l.r.args.map Tm.aN), .int .i64 l.l.head, .ps 2 (l.l.args.map Tm.aN)]]).length=2:=rfl
 have I4:∀ n,bx n ([ae.agg [.int .i64 l.l.head, .ps 2 (l.l.args.map Tm.aN), .int .i64 l.r.head, .ps 2 (l.r.args.map Tm.aN)], .agg [.int .i64 l.r.head, .ps 2 (l.r.args.map Tm.aN), .int .i64 l.l.head, .ps 2 (l.l.args.map Tm.aN)]]):=fun n=>by simp [go_sem,bP]
 generalize ([ae.agg [.int .i64 l.l.head, .ps 2 (l.l.args.map Tm.aN), .int .i64 l.r.head, .ps 2 (l.r.args.map Tm.aN)], .agg [.int .i64 l.r.head, .ps 2 (l.r.args.map Tm.aN), .int .i64 l.l.head, .ps 2 (l.l.args.map Tm.aN)]])=R at *
 refine aK.c9 (ι:={i:Nat // i≤2∧W=if i=0 then lb b a l.l l.r F||lb b a l.r l.l F else if i=1 then lb b a l.r l.l F else false}) 1000
  (fun q=>fD 56 [(0, .pm (fj b) (fN b)),(3,D),(5, .ptr 8 0),(8, .bool false),(28, .os 10 0 2 4),(29, .int .i64 2),(30, .int .i64 q.1)])
  (fun _=>[b0,b1,b2,b3,b4,b5,b6,b7,some (.var [.bool a.neg, .int .i64 a.l.head, .ps 2 (a.l.args.map Tm.aN), .int .i64 a.r.head, .ps 2 (a.r.args.map Tm.aN)]),none,some (.row R 0)]) (fun q=>2 - q.1) ⟨0,by decide,h0⟩ ?_ (fun _=>by simp) ?_
 ·simp only [go_sem,wF,wQ,xg,bP,iE,I4]
  exact ⟨rfl,trivial⟩
 ·rintro ⟨i,hi,aO⟩
  by_cases bD:(i:Int)<2
  case neg =>
   have dR:i=2:=by omega
   subst dR
   have hWf:false=W:=by rw [aO];rfl
   simp only [go_sem,bD]
   refine aK.go 1000 ?_
   simp only [go_sem]
   exact hend _ _ hWf
  have aZ:i<2:=by omega
  have hw:IntKind.i64.wrap ((i:Int)+1)=((i+1:Nat):Int):=by rw [ep (by omega)];omega
  obtain ⟨x,y,hx,hr,wj,BQ⟩:=Nu i aZ
  rw [hr] at aO
  have nV:lb b a x y F=false→W=if i+1=0 then lb b a l.l l.r F||lb b a l.r l.l F else if i+1=1 then lb b a l.r l.l F else false:=fun h=>by rw [aO,h,dq]
  have zv:lb b a x y F=match n6 b a.l x with | none=>false | some m=>match n6 m a.r y with | none=>false | some k=>F k:=rfl
  have c1:=Tp b a.l x ha.1.1 ha.1.2 wj hb
  simp only [go_sem,bD,hRl,hx]
  refine ⟨by omega,by omega,by decide,?_⟩
  refine aq.bU [] (c1) (by (try simp only [dc]);exact cH _ _ _) (by simp [go_sem,dE,bP,iE]) ?_;rw [jd];simp only [ite_self];refine aK.go 1000 ?_
  cases h1:n6 b a.l x with
  | none =>
   rw [h1] at zv
   simp only [go_sem,mapA]
   refine ⟨⟨i+1,by omega,nV zv⟩,?_,by simp only;omega⟩
   simp only [go_sem,wF,wQ,xg,bP,iE,I4,hw]
   trivial
  | some m =>
   have hm:=Pl hb wj h1
   rw [h1] at zv
   simp only at zv
   have c2:=Tp m a.r y ha.2.1 ha.2.2 BQ hm
   simp only [go_sem,mapA]
   (repeat ((with_reducible refine And.intro ?_ ?_); ·omega))
   refine aq.bU [] (c2) (by (try simp only [dc]);exact cH _ _ _) (by simp [go_sem,dE,bP,iE]) ?_;rw [jd];simp only [ite_self];refine aK.go 1000 ?_
   cases h2:n6 m a.r y with
   | none =>
    rw [h2] at zv
    simp only [go_sem,mapA]
    refine ⟨⟨i+1,by omega,nV zv⟩,?_,by simp only;omega⟩
    simp only [go_sem,wF,wQ,xg,bP,iE,I4,hw]
    trivial
   | some k =>
    have eA:=Pl hm BQ h2
    rw [h2] at zv
    simp only at zv
    simp only [go_sem,mapA]
    refine aq.tail (σ:=[b0,b1,b2,b3,b4,b5,b6,b7]) (τ:=[some (.var [.bool a.neg, .int .i64 a.l.head, .ps 2 (a.l.args.map Tm.aN), .int .i64 a.r.head, .ps 2 (a.r.args.map Tm.aN)]),none,some (.row R 0),some (.var [.int .i64 x.head, .ps 2 (x.args.map Tm.aN), .int .i64 y.head, .ps 2 (y.args.map Tm.aN)])]) Vb (by simp [go_sem,iE]) hs ((hD k eA).mono ?_)
    rintro r σ' ⟨rfl,rfl⟩
    refine ⟨rfl,?_⟩
    simp only [bj,bf]
    cases hF:F k with
    | true =>
     refine aK.go 1000 ?_
     simp only [go_sem]
     refine aK.go 1000 ?_
     simp only [go_sem]
     exact hend _ _ (by rw [aO,zv,hF,fH])
    | false =>
     refine aK.go 1000 ?_
     simp only [go_sem]
     refine ⟨⟨i+1,by omega,nV (by rw [zv,hF])⟩,?_,by simp only;omega⟩
     simp only [go_sem,wF,wQ,xg,bP,iE,I4,hw]
     trivial
def mZ (d:List Li) (us:List Bool):ai:=[some (.row (f_ us) 0),some (.var [.ps 5 (lits d), .os 0 0 d.length 1])]
theorem HC (l:List Bool) (i:Nat) (b:Bool):(f_ l).set i (.bool b)=f_ (l.set i b):=by simp [f_,List.map_set]
theorem Eo (d:List Li) (us:List Bool) {n:Nat} (h : 2≤n):bt n (mZ d us):=by
 unfold mZ
 refine ⟨rL us,⟨ct d,show 0<n by omega,trivial⟩,trivial⟩
section
variable {P:Program} {lo:Ctx} {Q:cb→St→Prop} {k:List KI} {ops:Array Oper} {l:List Oper} {fs:List Fp} {tm:List ae} {σ m:ai}
theorem R_ {d:Option Tmp} {f:ae} {args:List ae} {wr:List Nat} (r:ae) (hc:aq P f args m (fun r' σ'=>r'=r∧σ'=m)) (h:iq P lo Q k ops l fs (put tm d r) (dD wr 0 m σ)):r8 P lo Q k ops wr d l fs tm σ m f args :=
 ⟨r,m,hc,zK wr m 0,h⟩
end
theorem Yk3 (d:List Li) (a:Li) (c:List Li) (us:List Bool) (b:List Bd) (o:Option bE) (z:Bool) (ho:ji 8 o) (gK:c.length<1000000)
  (hA:aq Tryz.prog (.fn 55 [] []) [.ptr 1 0, .ps 5 (lits c), .pm (fj b) (fN b)] (mZ d us) (fun r σ'=>r = .bool z∧σ'=mZ d us)) :
  aq Tryz.prog (.fn 92 [] [.ptr 2 0, .ptr 3 0]) [.pm (fj b) (fN b)] [some (.row (f_ us) 0),some (.var [.ps 5 (lits d), .os 0 0 d.length 1]),some (.var [.ptr 1 0]),some (.var [.ps 5 (lits (a :: c))]),o,none,none,none]
   (fun r σ'=>r = .bool z∧σ'=[some (.row (f_ us) 0),some (.var [.ps 5 (lits d), .os 0 0 d.length 1]),some (.var [.ptr 1 0]),some (.var [.ps 5 (lits (a :: c))]),o,none,none,none]):=by
 refine aq.begin (rs:=[.tmp 4]) (m:=7) 1000 Tryz.func92 rfl rfl rfl rfl rfl ?_
 have yu:List.drop 1 (lits (a :: c))=lits c:=rfl
 simp only [go_sem]
 refine aK.draw [] 8 8 mixed rfl rfl (by decide) ?_
 simp only [go_sem,dA,fO,au,yu]
 have sj:List.take (c.length+1 - 1) (lits c)=lits c:=bd (by rw [fO];omega)
 rw [sj]
 (repeat ((with_reducible refine And.intro ?_ ?_); ·omega))
 refine R_ (.bool z) ?_ ?_
 ·refine aq.tail (σ:=mZ d us) (τ:=[some (.var [.ptr 1 0]),some (.var [.ps 5 (lits (a :: c))]),o,none,none,none]) ⟨trivial,trivial⟩ ⟨jc,ct _,⟨(iE b).1,(iE b).2⟩ ,trivial⟩ (Eo d us (ah _)) (hA.mono ?_)
  rintro r σ' ⟨rfl,rfl⟩
  exact ⟨rfl,rfl,rfl⟩
 simp only [go_sem]
 refine aK.go 1000 ?_
 simp only [go_sem]
 rw [fL]
 exact ⟨_,fx _,ah _,by simp [go_sem,rL,ct,wF,xg,ho];trivial,trivial,rfl,rfl⟩
set_option maxHeartbeats 1000000 in
theorem Lt (d:List Li) (hd:∀ l∈d,vL l) (yb:d.length<1000000):∀ (c:List Li) (us:List Bool) (b:List Bd),us.length=d.length→(∀ a∈c,vL a)→c.length<1000000→Hc b →
  aq Tryz.prog (.fn 55 [] []) [.ptr 1 0, .ps 5 (lits c), .pm (fj b) (fN b)] (mZ d us) (fun r σ'=>r = .bool (pn d c us b)∧σ'=mZ d us)
 | [],us,b,hu,hc,gK,hb=>by
  unfold mZ
  refine aq.begin (rs:=[.tmp 6]) (m:=57) 1000 Tryz.func55 rfl rfl rfl rfl rfl ?_
  simp only [go_sem,fO,aR]
  rw [fL]
  exact ⟨mZ d us,Ff (mZ d us) _,ah _,Eo d us (ah _),trivial,by rw [pn],rfl⟩
 | a :: c,us,b,hu,hc,gK,hb=>by
  unfold mZ
  refine aq.begin (rs:=[.tmp 6]) (m:=57) 1000 Tryz.func55 rfl rfl rfl rfl rfl ?_
  have dX:¬ ((c.length+1:Nat):Int)=0:=by omega
  obtain ⟨W,hW⟩:∃ W,pn d (a :: c) us b=W:=⟨_,rfl⟩
  rw [hW]
  have hend:∀ (z:Bool) (EP:List Bool) (τ:ai),z=W→EP=us→my (fun r σ'=>r = .bool W∧σ'=mZ d us) 2 (.bool z) (mZ d EP++τ):=fun z EP τ hz hu=>by
   rw [fL,hz,hu]
   exact ⟨mZ d us,Ff _ _,ah _,Eo d us (ah _),trivial,rfl,rfl⟩
  unfold mZ at hend
  have yd:∀ τ:ai,(some (.row (f_ us) 0)) :: (some (.var [.ps 5 (lits d), .os 0 0 d.length 1])) :: τ=mZ d us++τ:=fun τ=>rfl
  rw [pn] at hW
  obtain ⟨f,hf⟩:∃ f:Nat→Bool,(fun k=>!us.getD k false&&decide ((d.getD k lP).neg=a.neg)&&nt b a (d.getD k lP) fun m=>pn d c (us.set k true) m)=f:=⟨_,rfl⟩
  rw [hf] at hW
  have hak:=hc a (by simp)
  simp only [go_sem,fO,au,dX]
  refine aK.c9 (ι:={k:Nat // k≤d.length∧((List.range d.length).drop k).any f=W}) 1000
   (fun q=>fD 60 [(2, .pm (fj b) (fN b)),(3, .ptr 2 0),(4, .ptr 3 0),(6, .bool false),(16, .ps 5 (lits d)),(17, .int .i64 d.length),(18, .int .i64 q.1)])
   (fun _=>[some (.row (f_ us) 0),some (.var [.ps 5 (lits d), .os 0 0 d.length 1]),some (.var [.ptr 1 0]),some (.var [.ps 5 (lits (a :: c))])]) (fun q=>d.length - q.1) ⟨0,av _,by simpa using hW⟩ ?_ (fun _=>by simp) ?_
  ·simp only [go_sem,rL,ct,iE]
  ·rintro ⟨k,hk,aO⟩
   by_cases bD:(k:Int)<d.length
   case neg =>
    have dR:k=d.length:=by omega
    subst dR
    rw [o_ (by simp),mF] at aO
    simp only [go_sem,bD]
    refine aK.go 1000 ?_
    simp only [go_sem]
    exact hend _ us [some (.var [.ptr 1 0]),some (.var [.ps 5 (lits (a :: c))])] aO rfl
   have aZ:k<d.length:=by omega
   have hw:IntKind.i64.wrap ((k:Int)+1)=((k+1:Nat):Int):=by rw [ep (by omega)];omega
   have g1:=tG aZ
   have g2:=HL (l:=us) (i:=k) (by omega)
   have g3:(lits (a :: c)).getD 0 .undef=a.aN:=rfl
   have gd:d.getD k lP=d[k]:=by simp [List.getD,aZ]
   have MH:=hd _ (aF aZ)
   rw [ak (by simpa using aZ),fe,mK] at aO
   have vt:f k=(!us.getD k false&&decide (d[k].neg=a.neg)&&nt b a d[k] fun m=>pn d c (us.set k true) m):=by rw [← hf];simp only [gd]
   generalize d[k]=l at *
   simp only [go_sem,bD,fO,g1,ku]
   refine ⟨by omega,?_⟩
   have wb:(k:Int)<us.length:=by omega
   have xw:f k=false→(List.drop (k+1) (List.range d.length)).any f=W:=fun h=>by rw [h,dq] at aO;exact aO
   refine aK.draw [] 5 5 mixed rfl rfl (by decide) ?_
   cases wc:us.getD k false with
   | true =>
    rw [wc] at g2 vt
    simp only [go_sem,dA,g2,Ce,hu,g3,ku,bD]
    (repeat ((with_reducible refine And.intro ?_ ?_); ·omega))
    refine aK.go 1000 ?_
    simp only [go_sem]
    refine ⟨⟨k+1,by omega,xw (by rw [vt];simp)⟩,?_,by simp only;omega⟩
    simp only [go_sem,rL,ct,iE,hw]
   | false =>
    rw [wc] at g2 vt
    cases fM:(l.neg==a.neg) with
    | false =>
     have AA:decide (l.neg=a.neg)=false:=by simpa using fM
     simp only [go_sem,dA,g2,Ce,hu,g3,ku,bD,fM,fO,au]
     (repeat ((with_reducible refine And.intro ?_ ?_); ·omega))
     refine aK.go 1000 ?_
     simp only [go_sem]
     refine ⟨⟨k+1,by omega,xw (by rw [vt,AA];simp)⟩,?_,by simp only;omega⟩
     simp only [go_sem,rL,ct,iE,hw]
    | true =>
     have AA:decide (l.neg=a.neg)=true:=by simpa using fM
     rw [AA] at vt
     simp only [Bool.not_false,cu] at vt
     simp only [go_sem,dA,g2,Ce,hu,g3,ku,bD,fM,fO,au]
     (repeat ((with_reducible refine And.intro ?_ ?_); ·omega))
     refine aK.go 1000 ?_
     simp only [go_sem,Ce,hu,g2,HC]
     have yx:(us.set k true).length=d.length:=by rw [bh];exact hu
     have qK:(us.set k true).set k false=us:=by
      rw [List.set_set]
      refine List.ext_getElem (by simp) fun i h1 h2=>?_
      rw [List.getElem_set]
      split
      ·rename_i e;subst e;simpa [List.getD,h2] using wc.symm
      ·rfl
     have F2:=UQ (some (.row (f_ (us.set k true)) 0)) (some (.var [.ps 5 (lits d), .os 0 0 d.length 1])) (some (.var [.ptr 1 0])) (some (.var [.ps 5 (lits (a :: c))])) (some (.var [.bool l.neg, .int .i64 l.l.head, .ps 2 (l.l.args.map Tm.aN), .int .i64 l.r.head, .ps 2 (l.r.args.map Tm.aN)])) none none none b a l (.fn 92 [] [.ptr 2 0, .ptr 3 0]) (fun m=>pn d c (us.set k true) m)
      (by simp [go_sem,rL,ct,bP]) (by simp [go_sem]) hb hak MH (fun m hm=>Yk3 d a c _ m (some (.var [.bool l.neg, .int .i64 l.l.head, .ps 2 (l.l.args.map Tm.aN), .int .i64 l.r.head, .ps 2 (l.r.args.map Tm.aN)])) _ (by simp [go_sem,bP,xg]) (by simp only [au] at gK;omega) (Lt d hd yb c (us.set k true) m yx (fun x hx=>hc x (by simp [hx])) (by simp only [au] at gK;omega) hm))
     rw [← vt] at F2
     have g4:(f_ (us.set k true)).getD k .undef = .bool true:=by rw [HL (by omega)];simp [List.getD,show k<us.length by omega]
     generalize us.set k true=B2 at *
     refine ⟨by omega,by omega,?_⟩
     refine aK.draw [] 5 5 mixed rfl rfl (by decide) ?_
     simp only [go_sem,dA,g3,ku,fO,au]
     (repeat ((with_reducible refine And.intro ?_ ?_); ·omega))
     refine R_ (.bool (f k)) (aq.pad 3 ?_) ?_
     ·have e1:∀ x:Li,ae.agg [.bool x.neg, .int .i64 x.l.head, .ps 2 (x.l.args.map Tm.aN), .int .i64 x.r.head, .ps 2 (x.r.args.map Tm.aN)]=x.aN:=fun _=>rfl
      simp only [e1]
      refine F2.mono ?_
      rintro r σ' ⟨rfl,rfl⟩
      rw [fL]
      exact ⟨_,Ff [_,_,_,_,_] [none,none,none],ah _,by simp [go_sem,rL,ct,bP],trivial,rfl,rfl⟩
     simp only [go_sem]
     refine aK.go 1000 ?_
     simp only [go_sem,Ce,yx,g4,HC,qK]
     (repeat ((with_reducible refine And.intro ?_ ?_); ·omega))
     refine ⟨fun CX=>?_,fun CX=>?_⟩
     ·refine aK.go 1000 ?_
      simp only [go_sem]
      exact hend _ us [some (.var [.ptr 1 0]),some (.var [.ps 5 (lits (a :: c))]),some (.var [.bool l.neg, .int .i64 l.l.head, .ps 2 (l.l.args.map Tm.aN), .int .i64 l.r.head, .ps 2 (l.r.args.map Tm.aN)])] (by rw [← aO,CX,fH]) rfl
     ·refine ⟨⟨k+1,by omega,xw CX⟩,?_,by simp only;omega⟩
      simp only [go_sem,rL,ct,iE,hw]
def lE (c:List Li):Prop:=(∀ l∈c,vL l)∧c.length<1000000
theorem IK {c:List Li} (h:lE c):DF c:=⟨fun l hl=>by
 obtain ⟨⟨_,a⟩,_,b⟩:=h.1 l hl
 exact ⟨by omega,by omega⟩,by have:=h.2;omega⟩
theorem QO (d:List Li):List.replicate d.length (ae.bool false)=f_ (jl d):=YJ _
set_option maxHeartbeats 1000000 in
theorem Ylk (c d:List Li) (hc:lE c) (hd:lE d):aJ Tryz.prog 21 [.ps 5 (lits c), .ps 5 (lits d)] (.dy [.bool (sw c d).1, .int .i64 (sw c d).2]):=by
 refine aJ.begin (rs:=[.tmp 4, .tmp 5]) (m:=28) 1000 Tryz.func21 rfl rfl rfl (by decide) ⟨trivial,trivial,trivial⟩ ?_
 have hW:=SJ [c,d] (fun x hx=>by
  simp only [aP,dO,or_false] at hx
  rcases hx with rfl | rfl
  ·exact IK hc
  ·exact IK hd) (by simp)
 rw [Uq] at hW
 have hF:sw c d=if kb c d≠0 then (false,kb c d) else (yW c d,0):=rfl
 rw [hF]
 simp only [go_sem]
 refine aq.bU [0] hW ?_ (by simp [go_sem,eZ]) ?_
 ·simp only [go_sem,cP,aI,aS]
 simp only [bL,bZ,bX,if_true]
 refine aK.go 1000 ?_
 by_cases h0:kb c d=0
 case neg =>
  rw [if_pos h0]
  simp only [go_sem,h0]
 rw [if_neg (fun k=>k h0)]
 unfold yW
 by_cases hl:d.length<c.length
 ·have h1:(d.length:Int)<c.length:=by omega
  have h2:decide (c.length≤d.length)=false:=by simp;omega
  rw [h2]
  simp only [go_sem,h0,fO,h1]
 have h1:¬ (d.length:Int)<c.length:=by omega
 have h2:decide (c.length≤d.length)=true:=by simp;omega
 rw [h2,cu]
 have yb:=hd.2
 simp only [go_sem,h0,fO,h1,QO]
 refine ⟨by omega,?_⟩
 refine aq.Ai (q:=3) rfl ?_
 simp only [go_sem,aI,aS,cZ,df]
 have hI:∀ b,b<2→b=0∨b=1:=fun b hb=>by omega
 refine aq.l7 (Z:=mZ d (jl d)) (f:=.fn 55 [] []) (args:=[.ptr 1 0, .ps 5 (lits c), .pm (fj []) (fN [])]) (fun b=>b+1) (fun b b' h1 h2 e=>by omega) (fun b hb=>by have:b<2:=hb;simp;omega) (fun b hb=>?_) ⟨trivial,trivial⟩ rfl ⟨jc,ct _,⟨trivial,trivial⟩,trivial⟩ ?_ (Eo d _ (ah _))
  (Lt d hd.1 hd.2 c (jl d) [] (by simp [jl]) hc.1 hc.2 (fun x hx=>by cases hx)) ?_
 ·rcases hI b hb with rfl | rfl
  ·exact ⟨_,rfl,by simp [go_sem,cz (rL _)]⟩
  ·exact ⟨_,rfl,by simp [go_sem,cz (ct _)]⟩
 ·simp [go_sem,cz (ct _),fj,fN]
 ·rintro r Z' ⟨rfl,rfl⟩
  refine ⟨ah _,Eo d _ (ah _),trivial,?_⟩
  simp only [go_sem,mZ,jJ,fc,mX,aI,aS,cz (rL _),cz (ct _)]
  refine aK.go 1000 ?_
  simp only [go_sem]
end Go.Proofs
namespace Go.cV
open Go
section
variable {P:Program} {lo:Ctx} {Q:cb→St→Prop} {tm:List ae} {σ:ai}
theorem Yjp {X:Nat→Nat→Prop} {base mb:Nat} {D:List Deferred} {β:Env} {a:Act} {w:World} (bs:List Nat) (i:Nat) (t:ae) (hi:i<tm.length) (hp:pT (among bs) σ t (tm.getD i .undef)) (h3:Rel X base mb D ⟨tm,σ⟩ β a w) :
  Rel X base mb D ⟨tm.set i t,fA (among bs) 0 σ⟩ β a w:=by
 have nU:=zL (among bs) σ
 have xp:=h3.s.oq nU.oq
 obtain ⟨_,e2⟩:=tJ xp nU [t] (ck:=[tm.getD i .undef]) (by rw [Fl];exact ⟨hp,by rw [O7];trivial⟩)
 refine ⟨xp,by simpa using h3.n,fun k hk=>?_,h3.d⟩
 have hr:=(h3.t k (by simpa using hk)).mono (A_ nU.oq) (fun _ _ h=>h)
 by_cases e:i=k
 ·subst e
  have:=(e2 0 (by simp)).1 _ hr
  simpa [List.getD,hi] using this
 ·simpa [List.getD,dT,e] using hr
theorem ZD {n:Nat} {β β':Env} {w w':World} {σ':ai} (bs:List Nat) (g3:Ext n (fA (among bs) 0 σ) β w σ' β' w'):Ext n σ β w σ' β' w':=by
 have hf:=(zL (among bs) σ).oq
 exact ⟨g3.os,g3.tape,g3.output,g3.size,fun g o v hc hn=>g3.cell g o v hc fun hm=>hn (hm.oq hf),fun g hg hn=>g3.block g hg fun o hm=>hn o (hm.oq hf),fun g o hm=>(g3.iC g o hm).imp (fun h=>h.oq hf) id,g3.env⟩
theorem aK.tell {all:Array Oper} {l:List Oper} {k:List KI} (bs:List Nat) (i:Nat) (t:ae) (hi:i<tm.length) (hp:pT (among bs) σ t (tm.getD i .undef)) (he:aK P lo Q (.ops all l :: k) .normal ⟨tm.set i t,fA (among bs) 0 σ⟩):aK P lo Q (.ops all l :: k) .normal ⟨tm,σ⟩:=by
 simp only [aK] at he ⊢
 refine fun hs=>?_
 intro X base mb D β a w b k cs h1 h2 h3
 obtain ⟨e1,ka,eS,a1,w1,q,g1,g2,g3,g4⟩:=(he hs) X base mb D β a w b k cs (by simpa [Ie] using h1) h2 (Yjp bs i t hi hp h3)
 exact ⟨e1,ka,eS,a1,w1,q,g1,g2,ZD bs g3,g4⟩
end
end Go.cV
namespace Go.Proofs
open Go Go.cV
attribute [local go_sem] Nat.reduceAdd Nat.reduceSub Nat.reduceMul Nat.reduceLeDiff Nat.reduceEqDiff Nat.reduceBEq Nat.reduceLT Nat.le_refl Int.natCast_zero Nat.sub_zero List.length_map Int.toNat_natCast Int.natCast_one Int.reduceEq Int.reduceLT Int.reduceLE Int.reduceNe Int.sub_zero Int.zero_add Int.toNat_one
theorem Ypq (d c:List Li) (us:List Bool) (b:List Bd) (o4 o5:Option bE) (z:Bool) (h4:ji 8 o4) (h5:ji 8 o5)
  (hA:aq Tryz.prog (.fn 55 [] []) [.ptr 1 0, .ps 5 (lits c), .pm (fj b) (fN b)] (mZ d us) (fun r σ'=>r = .bool z∧σ'=mZ d us)) :
  aq Tryz.prog (.fn 111 [] [.ptr 2 0, .ptr 3 0]) [.pm (fj b) (fN b)] [some (.row (f_ us) 0),some (.var [.ps 5 (lits d), .os 0 0 d.length 1]),some (.var [.ptr 1 0]),some (.var [.ps 5 (lits c)]),o4,o5,none,none]
   (fun r σ'=>r = .bool z∧σ'=[some (.row (f_ us) 0),some (.var [.ps 5 (lits d), .os 0 0 d.length 1]),some (.var [.ptr 1 0]),some (.var [.ps 5 (lits c)]),o4,o5,none,none]):=by
 refine aq.begin (rs:=[.tmp 4]) (m:=6) 1000 Tryz.func111 rfl rfl rfl rfl rfl ?_
 simp only [go_sem]
 refine aq.tail (σ:=mZ d us) (τ:=[some (.var [.ptr 1 0]),some (.var [.ps 5 (lits c)]),o4,o5,none,none]) ⟨trivial,trivial⟩ ⟨jc,ct _,⟨(iE b).1,(iE b).2⟩,trivial⟩ (Eo d us (ah _)) (hA.mono ?_)
 rintro r σ' ⟨rfl,rfl⟩
 refine ⟨rfl,?_⟩
 simp only [mZ,bj,bf]
 refine aK.go 1000 ?_
 simp only [go_sem]
 rw [fL]
 exact ⟨_,fx _,ah _,by simp [go_sem,rL,ct,wF,xg,h4,h5];trivial,trivial,rfl,rfl⟩
set_option maxHeartbeats 2000000 in
theorem Yrk (c d:List Li) (hc:lE c) (hd:lE d):aJ Tryz.prog 70 [.ps 5 (lits c), .ps 5 (lits d)] (.dy [.int .i64 (mW c d).1, .bool (mW c d).2.1, .int .i64 (mW c d).2.2]):=by
 refine aJ.begin (rs:=[.tmp 4, .tmp 5, .tmp 6]) (m:=72) 1000 Tryz.func70 rfl rfl rfl (by decide) ⟨trivial,trivial,trivial,trivial⟩ ?_
 have hW:=SJ [c,d] (fun x hx=>by
  simp only [aP,dO,or_false] at hx
  rcases hx with rfl | rfl
  ·exact IK hc
  ·exact IK hd) (by simp)
 rw [Uq] at hW
 have hF:mW c d=if kb c d≠0 then (0,false,kb c d) else match vg c d with | some k=>((k:Int),true,0) | none=>(0,false,0):=rfl
 rw [hF]
 simp only [go_sem]
 refine aq.bU [0] hW ?_ (by simp [go_sem,eZ]) ?_
 ·simp only [go_sem,cP,aI,aS]
 simp only [bL,bZ,bX,if_true]
 refine aK.go 1000 ?_
 by_cases h0:kb c d=0
 case neg =>
  rw [if_pos h0]
  simp only [go_sem,h0]
 rw [if_neg (fun k=>k h0)]
 have yb:=hd.2
 have gK:=hc.2
 obtain ⟨p,hp⟩:∃ p:Nat→Bool,(fun k=>(List.range c.length).any fun i=>cutAt c d k i)=p:=⟨_,rfl⟩
 have hB:vg c d=(List.range d.length).find? p:=by unfold vg;rw [hp]
 rw [hB]
 obtain ⟨W,I6⟩:∃ W,(List.range d.length).find? p=W:=⟨_,rfl⟩
 rw [I6]
 have AE:(jl d).length=d.length:=by simp [jl]
 simp only [go_sem,h0,fO,QO]
 refine ⟨by omega,?_⟩
 refine aK.c9 (ι:={k:Nat // k≤d.length∧((List.range d.length).drop k).find? p=W}) 1000
  (fun q=>fD 74 [(0, .ps 5 (lits c)),(8, .ptr 3 0),(27, .ps 5 (lits d)),(28, .int .i64 d.length),(29, .int .i64 q.1)])
  (fun _=>[none,some (.row (f_ (jl d)) 0),some (.var [.ps 5 (lits d), .os 1 0 d.length 1]),some (.var [.ptr 2 0])]) (fun q=>d.length - q.1) ⟨0,av _,by simpa using I6⟩ ?_ (fun _=>by simp) ?_
 ·simp only [go_sem,rL,ct]
 ·rintro ⟨k,hk,aO⟩
  by_cases bD:(k:Int)<d.length
  case neg =>
   have dR:k=d.length:=by omega
   subst dR
   rw [o_ (by simp),List.find?_nil] at aO
   subst aO
   simp only [go_sem,bD]
   refine aK.go 1000 ?_
   simp only [go_sem]
  have aZ:k<d.length:=by omega
  have hw:IntKind.i64.wrap ((k:Int)+1)=((k+1:Nat):Int):=by rw [ep (by omega)];omega
  have g1:=tG aZ
  have gd:d.getD k lP=d[k]:=by simp [List.getD,aZ]
  have MH:=hd.1 _ (aF aZ)
  rw [ak (by simpa using aZ),pU,mK] at aO
  have VH:p k=(List.range c.length).any fun i=>cutAt c d k i:=by rw [← hp]
  have MB:∀ i,cutAt c d k i=(decide ((c.getD i lP).neg≠d[k].neg)&&nt [] (c.getD i lP) d[k] fun m=>pn d (c.eraseIdx i) ((jl d).set k true) m):=fun i=>by unfold cutAt;rw [gd]
  have g2:(f_ (jl d)).getD k .undef = .bool false:=by rw [HL (by omega)];simp [jl,List.getD,aZ]
  have wb:(k:Int)<(jl d).length:=by omega
  have yx:((jl d).set k true).length=d.length:=by rw [bh];exact AE
  have g4:(f_ ((jl d).set k true)).getD k .undef = .bool true:=by rw [HL (by omega)];simp [List.getD,AE,aZ]
  have qK:((jl d).set k true).set k false=jl d:=by
   rw [List.set_set]
   refine List.ext_getElem (by simp) fun i h1 h2=>?_
   rw [List.getElem_set]
   split
   ·simp [jl]
   ·rfl
  generalize d[k]=l at *
  simp only [go_sem,bD,fO,g1,ku,Ce,AE,g2,HC]
  (repeat ((with_reducible refine And.intro ?_ ?_); ·omega))
  obtain ⟨V,hV⟩:∃ V,p k=V:=⟨_,rfl⟩
  rw [hV] at aO VH
  generalize (jl d).set k true=B2 at *
  refine aK.c9 (ι:={i:Nat // i≤c.length∧((List.range c.length).drop i).any (cutAt c d k)=V}) 1000
   (fun q=>fD 74 [(0, .ps 5 (lits c)),(8, .ptr 3 0),(9, .int .i64 k),(10, .ptr 4 0),(27, .ps 5 (lits d)),(28, .int .i64 d.length),(29, .int .i64 k),(40, .ps 5 (lits c)),(41, .int .i64 c.length),(42, .int .i64 q.1)])
   (fun _=>[none,some (.row (f_ B2) 0),some (.var [.ps 5 (lits d), .os 1 0 d.length 1]),some (.var [.ptr 2 0]),some (.var [.bool l.neg, .int .i64 l.l.head, .ps 2 (l.l.args.map Tm.aN), .int .i64 l.r.head, .ps 2 (l.r.args.map Tm.aN)])]) (fun q=>c.length - q.1) ⟨0,av _,by simpa using VH.symm⟩ ?_ (fun _=>by simp) ?_
  ·simp only [go_sem,rL,ct,bP]
  ·rintro ⟨i,hi,fh⟩
   by_cases zp:(i:Int)<c.length
   case neg =>
    have dR:i=c.length:=by omega
    subst dR
    rw [o_ (by simp),mF] at fh
    rw [← fh] at aO
    simp only [go_sem,zp]
    refine aK.go 1000 ?_
    simp only [go_sem,Ce,yx,g4,HC,qK]
    (repeat ((with_reducible refine And.intro ?_ ?_); ·omega))
    refine ⟨⟨k+1,by omega,aO⟩,?_,by simp only;omega⟩
    simp only [go_sem,rL,ct,hw]
   have vw:i<c.length:=by omega
   have Ji:IntKind.i64.wrap ((i:Int)+1)=((i+1:Nat):Int):=by rw [ep (by omega)];omega
   have gc1:=tG vw
   have gcd:c.getD i lP=c[i]:=by simp [List.getD,vw]
   have Bu:=hc.1 _ (aF vw)
   rw [ak (by simpa using vw),fe,mK,MB,gcd] at fh
   generalize c[i]=a at *
   have dX:c≠[]:=by rintro rfl;simp at vw
   simp only [go_sem,zp,fO,gc1,ku,Ji]
   (repeat ((with_reducible refine And.intro ?_ ?_); ·omega))
   refine aq.sT [] (Hz c dX (by omega)) (cH _ _ _) ⟨ct _,trivial⟩ ?_
   rw [jd]
   simp only [zV,zW,z7,xk,z8,up,cz (ct _)]
   refine aK.go 1000 ?_
   simp only [go_sem,bj,bf,Ji]
   refine aq.Ac (f:=.fn 71 [] []) (args:=[.os 0 0 c.length 5, .int .i64 i, .int .i64 ((i+1:Nat):Int)]) (B:=.row (lits c) 0) 7 rfl (ct _) ⟨trivial,trivial⟩ ⟨cn,trivial,trivial,trivial⟩ ((J8 c i vw (by omega)).mono ?_)
   rintro r σ' ⟨rfl,rfl⟩
   refine ⟨cn,_,rfl,ct _,?_⟩
   have ML:c.take i++c.drop (i+1)=c.eraseIdx i:=(List.eraseIdx_eq_take_drop_succ c i).symm
   have iS:(c.eraseIdx i).length=c.length - 1:=mL vw
   rw [ML]
   simp only [go_sem,cZ,df]
   refine aK.tell [7] 52 (.ps 5 (lits (c.eraseIdx i))) (by simp) ?_ ?_
   ·simp only [go_sem,bB,bg,fO,iS]
    rw [bd (by rw [fO,iS];exact ah _)]
    exact cH _ _ _
   simp only [go_sem,cZ,df]
   refine aK.go 1000 ?_
   cases fM:(a.neg==l.neg) with
   | true =>
    have AA:decide (a.neg≠l.neg)=false:=by simpa using fM
    rw [AA,db,dq] at fh
    simp only [go_sem,fM]
    refine ⟨⟨i+1,by omega,fh⟩,?_,by simp only;omega⟩
    simp only [go_sem,rL,ct,bP,Ji]
   | false =>
    have AA:decide (a.neg≠l.neg)=true:=by simpa using fM
    rw [AA,cu] at fh
    simp only [go_sem,fM]
    have F2:=UQ (some (.row (f_ B2) 0)) (some (.var [.ps 5 (lits d), .os 0 0 d.length 1])) (some (.var [.ptr 1 0])) (some (.var [.ps 5 (lits (c.eraseIdx i))])) (some (.var [.bool l.neg, .int .i64 l.l.head, .ps 2 (l.l.args.map Tm.aN), .int .i64 l.r.head, .ps 2 (l.r.args.map Tm.aN)])) (some (.var [.bool a.neg, .int .i64 a.l.head, .ps 2 (a.l.args.map Tm.aN), .int .i64 a.r.head, .ps 2 (a.r.args.map Tm.aN)])) none none [] a l (.fn 111 [] [.ptr 2 0, .ptr 3 0]) (fun m=>pn d (c.eraseIdx i) B2 m)
     (by simp [go_sem,rL,ct,bP]) (by simp [go_sem]) (fun x hx=>by cases hx) Bu MH (fun m hm=>Ypq d (c.eraseIdx i) B2 m _ _ _ (by simp [go_sem,bP,xg]) (by simp [go_sem,bP,xg]) (Lt d hd.1 yb (c.eraseIdx i) B2 m yx (fun x hx=>hc.1 x (n9 hx)) (by omega) hm))
    obtain ⟨z,hz⟩:∃ z,(nt [] a l fun m=>pn d (c.eraseIdx i) B2 m)=z:=⟨_,rfl⟩
    rw [hz] at F2 fh
    have hI:∀ b,b<8→b=0∨b=1∨b=2∨b=3∨b=4∨b=5∨b=6∨b=7:=fun b hb=>by omega
    refine aq.Ai (q:=9) rfl ?_
    have e1:∀ x:Li,ae.agg [.bool x.neg, .int .i64 x.l.head, .ps 2 (x.l.args.map Tm.aN), .int .i64 x.r.head, .ps 2 (x.r.args.map Tm.aN)]=x.aN:=fun _=>rfl
    simp only [go_sem,aI,aS,cZ,df]
    simp only [e1]
    refine aq.l7 (Z:=[some (.row (f_ B2) 0),some (.var [.ps 5 (lits d), .os 0 0 d.length 1]),some (.var [.ptr 1 0]),some (.var [.ps 5 (lits (c.eraseIdx i))]),some (.var [.bool l.neg, .int .i64 l.l.head, .ps 2 (l.l.args.map Tm.aN), .int .i64 l.r.head, .ps 2 (l.r.args.map Tm.aN)]),some (.var [.bool a.neg, .int .i64 a.l.head, .ps 2 (a.l.args.map Tm.aN), .int .i64 a.r.head, .ps 2 (a.r.args.map Tm.aN)]),none,none]) (f:=.fn 91 [] []) (args:=[.pm (fj []) (fN []),a.aN,l.aN, .fn 111 [] [.ptr 2 0, .ptr 3 0]]) (fun b=>[1,2,3,8,4,5,6,9].getD b 0)
     (fun b b' h1 h2 e=>?_) (fun b hb=>?_) (fun b hb=>?_) ⟨trivial,trivial⟩ rfl ?_ ?_ (by simp [go_sem,rL,ct,bP]) F2 ?_
    ·rcases hI b h1 with rfl | rfl | rfl | rfl | rfl | rfl | rfl | rfl<;>rcases hI b' h2 with rfl | rfl | rfl | rfl | rfl | rfl | rfl | rfl<;>first | rfl | exact absurd e (by decide)
    ·rcases hI b hb with rfl | rfl | rfl | rfl | rfl | rfl | rfl | rfl<;>simp
    ·rcases hI b hb with rfl | rfl | rfl | rfl | rfl | rfl | rfl | rfl<;>exact ⟨_,rfl,by simp [go_sem,cz (rL _),cz (ct _),cz (bP _)]⟩
    ·simp [go_sem,mQ,iE]
    ·simp [go_sem,fj,fN,zT (mQ _)]
    ·rintro r Z' ⟨rfl,rfl⟩
     refine ⟨ah _,by simp [go_sem,rL,ct,bP],trivial,?_⟩
     simp only [go_sem,jJ,fc,mX,aI,aS,cz (rL _),cz (ct _),cz (bP _),au,aR,bB,bg]
     cases z with
     | true =>
      rw [fH] at fh
      rw [← fh] at aO
      subst aO
      refine aK.go 1000 ?_
      simp only [go_sem]
      refine aK.go 1000 ?_
      simp only [go_sem]
      refine aK.go 1000 ?_
      simp only [go_sem]
     | false =>
      rw [dq] at fh
      refine aK.go 1000 ?_
      simp only [go_sem]
      refine ⟨⟨i+1,by omega,fh⟩,?_,by simp only;omega⟩
      simp only [go_sem,rL,ct,bP,Ji]
theorem Zm6 (σ:ai) {b:Nat} (c:ae) (p:Li→Bool) (l:List Li) (hb:bF σ b=eJ (lits l)) (hl:l.length<2 ^ 62) (hs:bt σ.length σ) (hc:c.low σ.length)
  (hp:∀ (i:Nat) (h:i<l.length),aq Tryz.prog c [l[i].aN] σ (fun r σ'=>r = .bool (p l[i])∧σ' = σ)) :
  aq Tryz.prog (.fn 63 [] []) [ja b 5 (lits l),c] σ (fun r σ'=>r = .bool (l.any p)∧σ' = σ):=by
 cases l with
 | nil =>
  refine aq.LW (args':=[.ps 5 (lits []),c]) ?_ (Hi σ c p [] hl hs hc hp)
  rw [Fl]
  exact ⟨rfl,cH _ _ _⟩
 | cons a l =>
  have mY:bF σ b=some (.row (lits (a :: l)) 0):=hb
  have yu:ja b 5 (lits (a :: l)) = .os b 0 (a :: l).length 5:=by rw [← fO (a :: l)];rfl
  rw [yu]
  have bD:=zZ mY
  refine aq.begin (rs:=[.tmp 4]) (m:=7) 1000 Tryz.func63 rfl rfl rfl rfl rfl ?_
  simp only [go_sem]
  refine (QC σ c p (a :: l) mY hl hs hc hp).mono ?_
  rintro r σ' ⟨rfl,rfl⟩
  refine aK.go 1000 ?_
  simp only [go_sem]
  rw [fL,Ci p (a :: l) 0 (by omega)];exact ⟨σ',fx σ',ah _,hs,trivial,rfl,rfl⟩
theorem xb {l:Li} (h:vL l):xA l:=⟨by have:=h.1.2;omega,by have:=h.2.2;omega⟩
theorem Qt (l:Li) (h:xA l):aJ Tryz.prog 66 [l.aN] (.bool (np l)):=by
 refine aJ.begin (rs:=[.tmp 2]) (m:=7) 1000 Tryz.func66 rfl rfl rfl (by decide) trivial ?_
 have h1:=zS l.l l.r (by have:=h.1;omega) (by have:=h.2;omega)
 unfold np
 simp only [go_sem,ku]
 refine aq.bU [] (h1) (by (try simp only [dc]);exact cH _ _ _) (by simp [go_sem,dE,bP]) ?_;simp only [bL,bZ,bX,if_true];refine aK.go 1000 ?_
 simp only [go_sem]
theorem Zr3 (a b:Li) (ha:xA a) (hb:xA b):aJ Tryz.prog 105 [a.aN,b.aN] (.bool (vM a b)):=by
 refine aJ.begin (rs:=[.tmp 4]) (m:=13) 1000 Tryz.func105 rfl rfl rfl (by decide) trivial ?_
 have h:=RR a b ha hb
 unfold vM
 cases c:a.neg==b.neg
 ·have hd:decide (a.neg≠b.neg)=true:=by simpa using c
  rw [hd,cu]
  simp only [go_sem,ku,c]
  refine aq.bU [] h (cH _ _ _) ⟨mQ _,mQ _,trivial⟩ ?_
  simp only [bL,bZ,bX,if_true]
  refine aK.go 1000 ?_
  simp only [go_sem]
 ·have hd:decide (a.neg≠b.neg)=false:=by simpa using c
  rw [hd,db]
  simp only [go_sem,ku,c]
theorem Yj6 (σ:ai) (b:Nat) (l m:Li) (hb:bF σ b=some (.var l.cs)) (hl:xA l) (hm:xA m) :
  aq Tryz.prog (.fn 64 [] [.ptr b 0]) [m.aN] σ (fun r σ'=>r = .bool (eV l m)∧σ' = σ):=by
 have h:aJ Tryz.prog 64 [m.aN, .pp l.cs] (.bool (eV l m)):=by
  refine aJ.begin (rs:=[.tmp 3]) (m:=5) 1000 Tryz.func64 rfl rfl rfl (by decide) trivial ?_
  have h1:=TW l m hl hm
  simp only [go_sem,ku,Li.cs]
  refine aq.bU [] h1 (cH _ _ _) ⟨mQ _,mQ _,trivial⟩ ?_
  simp only [bL,bZ,bX,if_true]
  refine aK.go 1000 ?_
  simp only [go_sem,eV]
 refine aq.sS (b:=b) (cs:=l.cs) [] hb h ?_ ⟨mQ m,mQ l,trivial⟩ rfl ⟨rfl,rfl⟩
 have h1:tj b l.cs m.aN=m.aN:=rfl
 have h2:tj b l.cs (.ptr b 0) = .pp l.cs:=by simp [tj,xQ,Li.cs]
 simp only [bf,bj,aI,aS,h1,h2]
 exact cH _ _ _
theorem Ymv (σ:ai) (b:Nat) (l m:Li) (hb:bF σ b=some (.var l.cs)) (hl:xA l) (hm:xA m) :
  aq Tryz.prog (.fn 104 [] [.ptr b 0]) [m.aN] σ (fun r σ'=>r = .bool (vM l m)∧σ' = σ):=by
 have h:aJ Tryz.prog 104 [m.aN, .pp l.cs] (.bool (vM l m)):=by
  refine aJ.begin (rs:=[.tmp 3]) (m:=5) 1000 Tryz.func104 rfl rfl rfl (by decide) trivial ?_
  have h1:=Zr3 l m hl hm
  simp only [go_sem,ku,Li.cs]
  refine aq.bU [] h1 (cH _ _ _) ⟨mQ _,mQ _,trivial⟩ ?_
  simp only [bL,bZ,bX,if_true]
  refine aK.go 1000 ?_
  simp only [go_sem]
 refine aq.sS (b:=b) (cs:=l.cs) [] hb h ?_ ⟨mQ m,mQ l,trivial⟩ rfl ⟨rfl,rfl⟩
 have h1:tj b l.cs m.aN=m.aN:=rfl
 have h2:tj b l.cs (.ptr b 0) = .pp l.cs:=by simp [tj,xQ,Li.cs]
 simp only [bf,bj,aI,aS,h1,h2]
 exact cH _ _ _
set_option maxHeartbeats 1000000 in
theorem Ug (c:List Li) (hc:lE c):aJ Tryz.prog 29 [.ps 5 (lits c)] (.ps 5 (lits (ia c))):=by
 refine aJ.begin (rs:=[.tmp 2]) (m:=32) 1000 Tryz.func29 rfl rfl rfl (by decide) (ct _) ?_
 have gK:=hc.2
 simp only [go_sem,fO]
 refine aK.gS (ι:={q:Nat×List Li // q.1≤c.length∧iU q.2 (c.drop q.1)=ia c∧q.2.length≤q.1∧∀ x∈q.2,vL x}) 1000
  (fun q=>fD 33 [(3,ja 0 5 (lits q.1.2)),(7, .ps 5 (lits c)),(8, .int .i64 c.length),(9, .int .i64 q.1.1)])
  (fun q=>[eJ (lits q.1.2)]) (fun q=>c.length - q.1.1) ⟨(0,[]),av _,rfl,ah _,fun x hx=>by cases hx⟩ [] ?_ (fun _=>by simp) ?_
 ·refine iF rfl ?_
  simp only [go_sem,ct,cz (ct _),show lits []=[] from rfl,tK,td]
 ·rintro ⟨⟨i,L⟩,hi,aO,Al,ju⟩
  simp only at hi aO Al ju
  by_cases bD:(i:Int)<c.length
  case neg =>
   have dR:i=c.length:=by omega
   subst dR
   rw [aV,iU] at aO
   simp only [go_sem,bD]
   refine aK.go 1000 ?_
   simp only [go_sem]
   rw [← aO,rN rfl rfl];trivial
  have aZ:i<c.length:=by omega
  have hw:IntKind.i64.wrap ((i:Int)+1)=((i+1:Nat):Int):=by rw [ep (by omega)];omega
  have g1:=tG aZ
  have Bu:=hc.1 _ (aF aZ)
  rw [ak aZ,iU] at aO
  generalize c[i]=l at *
  have sK:([.bool l.neg, .int .i64 l.l.head, .ps 2 (l.l.args.map Tm.aN), .int .i64 l.r.head, .ps 2 (l.r.args.map Tm.aN)]:List ae)=l.cs:=rfl
  have hK:=Zm6 [eJ (lits L),some (.var l.cs)] (b:=0) (.fn 64 [] [.ptr 1 0]) (fun m=>eV l m) L rfl (by omega) ⟨zU _ (ct L),mQ l,trivial⟩ (by simp [go_sem]) (fun j hj=>Yj6 _ 1 l L[j] rfl (xb Bu) (xb (ju _ (aF hj))))
  simp only [go_sem,bD,fO,g1,ku]
  refine ⟨by omega,?_⟩
  rw [sK]
  refine hK.mono ?_
  rintro r σ' ⟨rfl,rfl⟩
  rw [← sK]
  obtain ⟨z,hz⟩:∃ z,(L.any fun m=>eV l m)=z:=⟨_,rfl⟩
  rw [hz] at aO ⊢
  have hT:=Qt l (xb Bu)
  have uw:(z||l.neg&&np l)=true→iU L (c.drop (i+1))=ia c:=fun h=>by rw [if_pos h] at aO;exact aO
  have sJ:(z||l.neg&&np l)=false→iU (L++[l]) (c.drop (i+1))=ia c:=fun h=>by rw [if_neg (by rw [h];simp)] at aO;exact aO
  clear aO
  have h2:bF [eJ (lits L),some (bE.var [.bool l.neg, .int .i64 l.l.head, .ps 2 (l.l.args.map Tm.aN), .int .i64 l.r.head, .ps 2 (l.r.args.map Tm.aN)]),some (bE.row [.agg [.bool l.neg, .int .i64 l.l.head, .ps 2 (l.l.args.map Tm.aN), .int .i64 l.r.head, .ps 2 (l.r.args.map Tm.aN)]] 0)] 0=eJ (lits L):=rfl
  have BN:lits [l]=[.agg [.bool l.neg, .int .i64 l.l.head, .ps 2 (l.l.args.map Tm.aN), .int .i64 l.r.head, .ps 2 (l.r.args.map Tm.aN)]]:=rfl
  have m8:=of_eq_true (LS [l])
  rw [BN] at m8
  have lw:bx 0 (lits (L++[l])):=ct _
  have qQ:lits (L++[l])=lits L++[.agg [.bool l.neg, .int .i64 l.l.head, .ps 2 (l.l.args.map Tm.aN), .int .i64 l.r.head, .ps 2 (l.r.args.map Tm.aN)]]:=by rw [← BN];simp [lits]
  refine aK.go 1000 ?_
  cases z
  case' true =>
   replace uw:=uw rfl
   simp only [go_sem]
  case' false =>
   cases hn:l.neg
   case' false =>
    replace sJ:=sJ (by rw [hn];rfl)
    rw [hn] at m8 qQ h2
    simp only [go_sem,hn,uQ h2,m8,fO,hw]
   case' true =>
    have e1:l.aN = .agg [.bool true, .int .i64 l.l.head, .ps 2 (l.l.args.map Tm.aN), .int .i64 l.r.head, .ps 2 (l.r.args.map Tm.aN)]:=by rw [← hn];rfl
    rw [hn] at h2 m8 qQ
    simp only [go_sem,hn]
    refine aq.bU [] hT (by rw [e1];exact cH _ _ _) ⟨mQ _,trivial⟩ ?_
    simp only [bL,bZ,bX,if_true]
    refine aK.go 1000 ?_
    cases ht:np l
    case' true =>
     replace uw:=uw (by rw [hn,ht];rfl)
     simp only [go_sem]
    case' false =>
     replace sJ:=sJ (by rw [hn,ht];rfl)
     simp only [go_sem,uQ h2,m8,fO,hw]
  all_goals first
  | (refine ⟨⟨(i+1,L),by simp only;omega,uw,by simp only;omega,ju⟩,[],iF rfl ?_,by simp only;omega⟩
     simp only [go_sem,ct,cz (ct _),HO (ct L),hw]
     done)
  | (refine ⟨by omega,⟨(i+1,L++[l]),by simp only;omega,sJ,by simp only [ay,au,aR];omega,fun x hx=>(aX.1 hx).elim (ju x) fun h=>by rw [aQ.1 h];exact Bu⟩,[(0,3),(3,0)],iF rfl ?_,by simp only;omega⟩
     dsimp only
     rw [qQ] at lw ⊢
     rw [Fe,E_]
     simp only [go_sem,ct,cz (ct _),cz lw,ie (av _) lw,fO]
     done)
  | trace_state
set_option maxHeartbeats 1000000 in
theorem Ym5 (c:List Li) (hc:lE c):aJ Tryz.prog 67 [.ps 5 (lits c)] (.bool (nk c)):=by
 refine aJ.begin (rs:=[.tmp 2]) (m:=28) 1000 Tryz.func67 rfl rfl rfl (by decide) trivial ?_
 have gK:=hc.2
 obtain ⟨W,hW⟩:∃ W,nk c=W:=⟨_,rfl⟩
 rw [hW]
 simp only [go_sem,fO]
 refine aK.c9 (ι:={i:Nat // i≤c.length∧sx (c.take i) (c.drop i)=W}) 1000
  (fun q=>fD 29 [(0, .ps 5 (lits c)),(2, .bool false),(6, .ps 5 (lits c)),(7, .int .i64 c.length),(8, .int .i64 q.1)])
  (fun _=>[]) (fun q=>c.length - q.1) ⟨0,av _,hW⟩ ?_ (fun _=>av _) ?_
 ·simp only [go_sem,ct]
 ·rintro ⟨i,hi,aO⟩
  by_cases bD:(i:Int)<c.length
  case neg =>
   have dR:i=c.length:=by omega
   subst dR
   rw [aV,sx] at aO
   subst aO
   simp only [go_sem,bD]
   refine aK.go 1000 ?_
   simp only [go_sem]
  have aZ:i<c.length:=by omega
  have hw:IntKind.i64.wrap ((i:Int)+1)=((i+1:Nat):Int):=by rw [ep (by omega)];omega
  have g1:=tG aZ
  have Bu:=hc.1 _ (aF aZ)
  have sj:c.take (i+1)=c.take i++[c[i]]:=by rw [dU,aA aZ,mO]
  rw [ak aZ,sx,← sj] at aO
  generalize c[i]=l at *
  have sK:([.bool l.neg, .int .i64 l.l.head, .ps 2 (l.l.args.map Tm.aN), .int .i64 l.r.head, .ps 2 (l.r.args.map Tm.aN)]:List ae)=l.cs:=rfl
  have VL:(lits c).take i=lits (c.take i):=by simp [lits,List.map_take]
  have hK:=Hi [some (.var l.cs)] (.fn 104 [] [.ptr 0 0]) (fun m=>vM l m) (c.take i) (by rw [cW];omega) ⟨mQ l,trivial⟩ (by simp [go_sem]) (fun j hj=>Ymv _ 0 l (c.take i)[j] rfl (xb Bu) (xb (hc.1 _ (lL (aF hj)))))
  have hT:=Qt l (xb Bu)
  obtain ⟨z,hz⟩:∃ z,((c.take i).any fun m=>vM l m)=z:=⟨_,rfl⟩
  rw [hz] at aO hK
  simp only [go_sem,bD,fO,g1,ku,VL,dk]
  (repeat ((with_reducible refine And.intro ?_ ?_); ·omega))
  rw [sK]
  refine hK.mono ?_
  rintro r σ' ⟨rfl,rfl⟩
  rw [← sK]
  have yz:(z || !l.neg&&np l)=true→true=W:=fun h=>by rw [if_pos h] at aO;exact aO
  have wY:(z || !l.neg&&np l)=false→sx (c.take (i+1)) (c.drop (i+1))=W:=fun h=>by rw [if_neg (by rw [h];simp)] at aO;exact aO
  clear aO
  refine aK.go 1000 ?_
  cases z
  case' true =>
   replace yz:=yz rfl
   simp only [go_sem]
  case' false =>
   cases hn:l.neg
   case' true =>
    replace wY:=wY (by rw [hn];rfl)
    simp only [go_sem,hn]
   case' false =>
    have e1:l.aN = .agg [.bool false, .int .i64 l.l.head, .ps 2 (l.l.args.map Tm.aN), .int .i64 l.r.head, .ps 2 (l.r.args.map Tm.aN)]:=by rw [← hn];rfl
    simp only [go_sem,hn]
    refine aq.bU [] hT (by rw [e1];exact cH _ _ _) ⟨mQ _,trivial⟩ ?_
    simp only [bL,bZ,bX,if_true]
    refine aK.go 1000 ?_
    cases ht:np l
    case' true =>
     replace yz:=yz (by rw [hn,ht];rfl)
     simp only [go_sem]
    case' false =>
     replace wY:=wY (by rw [hn,ht];rfl)
     simp only [go_sem]
  all_goals first
  | (refine ⟨⟨i+1,by omega,wY⟩,?_,by simp only;omega⟩
     simp only [go_sem,ct,hw]
     done)
  | (subst yz
     refine aK.go 1000 ?_
     simp only [go_sem]
     done)
  | trace_state
def kK (S:List Int) (v:Int):List Int:=if v∈S then S else S++[v]
mutual
def Tm.num:Tm→List Int→Tm×List Int
 | .mk h ts,S=>if h<0 then (.mk (-1 - ((kK S (-1 - h)).idxOf (-1 - h):Int)) [],kK S (-1 - h)) else (.mk h (Tm.fU ts S).1,(Tm.fU ts S).2)
def Tm.fU:List Tm→List Int→List Tm×List Int
 | [],S=>([],S)
 | t :: ts,S=>((t.num S).1 :: (Tm.fU ts (t.num S).2).1,(Tm.fU ts (t.num S).2).2)
end
def ni (S:List Int):List ae:=S.map (.int .i64 ·)
def ri (S:List Int):List ae:=(List.range S.length).map fun (i:Nat)=>.int .i64 i
def ko (S:List Int):Option bE:=some (.map (ni S) (ri S) false)
def kn:Option bE:=some (.var [.map 0])
theorem Pb (S:List Int) (v:Int):(kK S v).length≤S.length+1:=by unfold kK;split<;>simp
mutual
theorem LQ:∀ (t:Tm) (S:List Int),(t.num S).2.length≤S.length+t.size
 | .mk h ts,S=>by
  rw [Tm.num,Tm.size]
  split
  ·have:=Pb S (-1 - h);simp only;omega
  ·have:=TE ts S;simp only;omega
theorem TE:∀ (ts:List Tm) (S:List Int),(Tm.fU ts S).2.length≤S.length+Tm.bG ts
 | [],S=>by simp [Tm.fU]
 | t :: ts,S=>by
  rw [Tm.fU,Tm.bG]
  have:=LQ t S
  have:=TE ts (t.num S).2
  simp only;omega
end
theorem RA (S:List Int) (v:Int):(ni S).all (sameKind (.int .i64 v))=true:=by simp [ni,sameKind]
theorem Ylf (S:List Int):(ni S).length=S.length:=by simp [ni]
theorem KH (v:Int):∀ (S:List Int) (n:Nat),e8 (.int .i64 v) (ni S) n=if v∈S then some (n+S.idxOf v) else none
 | [],n=>by simp [ni,e8]
 | b :: S,n=>by
  have ih:=KH v S (n+1)
  simp only [ni,aI,e8] at ih ⊢
  by_cases c:b=v
  ·have hc:fb (.int .i64 v) (.int .i64 b)=true:=by simp [fb,c]
   rw [hc,if_pos rfl,c,List.idxOf_cons_self,if_pos (by simp)];simp
  ·have hc:fb (.int .i64 v) (.int .i64 b)=false:=by simp only [fb,beq_eq_false_iff_ne];exact fun e=>c e.symm
   rw [hc,if_neg (by simp),ih,List.idxOf_cons,show (b==v)=false by simpa using c,cond_false]
   by_cases hm:v∈S
   ·rw [if_pos hm,if_pos (by simp [hm])];congr 1;omega
   ·rw [if_neg hm,if_neg (by simp only [aP,not_or];exact ⟨fun e=>c e.symm,hm⟩)]
theorem Zzu (S:List Int) (v:Int) (z:ae):eQ (ni S) (ri S) z (.int .i64 v) true=if v∈S then .dy [.int .i64 (S.idxOf v), .bool true] else .dy [z, .bool false]:=by
 unfold eQ
 rw [KH]
 by_cases hm:v∈S
 ·have bD:=iP hm
  rw [if_pos hm,if_pos hm]
  simp only [if_true,ri,List.getD,cd,bm]
  rw [List.getElem?_range bD];rfl
 ·rw [if_neg hm,if_neg hm];rfl
theorem Zye {S:List Int} {v:Int} (h:v ∉ S):iM (ni S) (ri S) (.int .i64 v) (.int .i64 S.length)=(ni (S++[v]),ri (S++[v])):=by
 unfold iM
 rw [KH,if_neg h]
 simp [ni,ri,List.range_succ]
theorem Co {n:Nat} (S:List Int):bx n (ni S)∧bx n (ri S):=⟨uN fun _ _=>trivial,uN fun _ _=>trivial⟩
theorem Ykr {n:Nat} (S:List Int):ji n (ko S):=Co S
theorem Yik (S:List Int) (v:Int) (hS:S.length<1000000000):aq Tryz.prog (.fn 113 [] [.ptr 1 0]) [.int .i64 v] [ko S,kn] (fun r σ'=>r = .int .i64 ((kK S v).idxOf v)∧σ'=[ko (kK S v),kn]):=by
 refine aq.begin (rs:=[.tmp 3]) (m:=18) 1000 Tryz.func113 rfl rfl rfl rfl rfl ?_
 have oQ:=Zzu S v (.int .i64 0)
 unfold ko kn kK
 by_cases hm:v∈S
 ·rw [if_pos hm] at oQ
  rw [if_pos hm]
  simp only [go_sem,RA,oQ]
  rw [fL]
  exact ⟨_,fx _,by simp,⟨Co S,⟨ek,trivial⟩,trivial⟩,by simp [go_sem],rfl,rfl⟩
 ·rw [if_neg hm] at oQ
  rw [if_neg hm]
  have Gn:(S++[v]).idxOf v=S.length:=by rw [List.idxOf_append,if_neg hm];simp
  simp only [go_sem,RA,oQ,Ylf,Zye hm]
  rw [fL]
  exact ⟨_,fx _,by simp,⟨Co _,⟨ek,trivial⟩,trivial⟩,by simp [go_sem],by rw [Gn],rfl⟩
theorem aq.CA {P:Program} {σ:ai} {g:FuncId} {fn:Func} {c:Code} {first captured args all:List ae} {K:ae→ai→Prop} {m:Nat} {rs:List ResultVar} (hf:P.funcs[g]? = some fn) (hb:fn.body=some c) (hr:fn.results.toList=rs)
  (eX : first ++ args ++ captured = all) (hm : fn.ntmps - all.length = m) (eE : (fn.name == "runtime.NumGoroutine") = false)
  (h:aK P ⟨σ.length,none⟩ (qm P rs (yZ K σ.length)) [.code c] .normal ⟨all++List.replicate m .undef,σ⟩):aq P (.fn g first captured) args σ K:=by
 subst hr hm
 exact aq.sh (by rw [eX];exact bS.tree (bS.body hf hb eE h))
theorem PX {K:ae→ai→Prop} {n:Nat} {r0:ae} {σ':ai}:yZ K n r0 σ' = ∃ r ly,pT (fun b=>decide (n≤b)) σ' r r0∧ig ly σ'∧ly.length=n∧bt n ly∧r.low 0∧K r ly:=rfl
def DE:ae:=.fn 113 [] [.ptr 1 0]
def lp (S:List Int):ai:=[ko S,kn]
theorem Kd (S:List Int):bt 2 (lp S):=⟨Ykr S,⟨ek,trivial⟩,trivial⟩
@[go_sem] theorem Yz0 {n:Nat} (S:List Int):bx n (ni S)=True:=eq_true (Co S).1
@[go_sem] theorem Yyn {n:Nat} (S:List Int):bx n (ri S)=True:=eq_true (Co S).2
@[go_sem] theorem Yz5 {π:Nat→Nat} (S:List Int):dY π (ni S)=ni S:=cz (Co S).1
@[go_sem] theorem Yyw {π:Nat→Nat} (S:List Int):dY π (ri S)=ri S:=cz (Co S).2
theorem K5 {f:ae} {args:List ae} {S S':List Int} {x:ae} {τ:ai} {K:ae→ai→Prop} (h:aq Tryz.prog f args (lp S) (fun r σ'=>r=x∧σ'=lp S')) (hf:f.low 2) (ha:bx 2 args)
  (hk:K x (ko S' :: kn :: τ)):aq Tryz.prog f args (ko S :: kn :: τ) K:=by
 refine aq.tail (σ:=lp S) (τ:=τ) hf ha (Kd S) (h.mono ?_)
 rintro _ _ ⟨rfl,rfl⟩
 exact ⟨rfl,hk⟩
theorem EX (wr:List Nat):∀ (i:Nat) (τ:ai),dD wr i τ τ = τ
 | _,[]=>rfl
 | i,x :: τ=>by simp only [dD,EX wr (i+1) τ,ite_self]
theorem Ykc {f:ae} {args:List ae} {S S':List Int} {x:ae} {τ:ai} {lo:Ctx} {Q:cb→St→Prop} {k:List KI} {ops:Array Oper} {dst:Option Tmp} {ol:List Oper} {fs:List Fp} {tm:List ae}
  (h:aq Tryz.prog f args (lp S) (fun r σ'=>r=x∧σ'=lp S')) (hf:f.low 2) (ha:bx 2 args) (hk:iq Tryz.prog lo Q k ops ol fs (put tm dst x) (ko S' :: kn :: τ)) :
  r8 Tryz.prog lo Q k ops [0] dst ol fs tm (ko S :: kn :: τ) (ko S :: kn :: τ) f args:=by
 refine ⟨x,ko S' :: kn :: τ,K5 h hf ha ⟨rfl,rfl⟩,⟨.inl rfl,zK _ _ _⟩,?_⟩
 have:dD [0] 0 (ko S' :: kn :: τ) (ko S :: kn :: τ)=ko S' :: kn :: τ:=by
  show (if ([0]:List Nat).contains 0=true then ko S' else ko S) :: dD [0] 1 (kn :: τ) (kn :: τ) = _
  rw [EX];rfl
 rw [this];exact hk
theorem Tn:∀ (n:Nat) (t:Tm) (S:List Int),t.size≤n→t.size≤100000000→t.fit→S.length+t.size<1000000000 →
  aq Tryz.prog (.fn 114 [] []) [.agg [DE],t.aN] (lp S) (fun r σ'=>r=(t.num S).1.aN∧σ'=lp (t.num S).2)
 | 0,t,S,h,_,_,_=>by have:=oA t;omega
 | n+1,t,S,h,hs,hf,hS=>by
  refine aq.CA (rs:=[.cell 4 70]) (m:=37) Tryz.func114 rfl rfl rfl rfl (by decide) ?_
  have ft:=oA t
  have l9:=qb t.args
  obtain ⟨hd,ts⟩:=t
  have ha:=(FK hd ts).symm
  by_cases fM:hd<0
  ·have fh:IntKind.i64.wrap (-1 - hd) = -1 - hd:=by have:=hf.1;exact ep (by unfold n8 at *;omega)
   have Dh:(Tm.mk hd ts).num S=(.mk (-1 - ((kK S (-1 - hd)).idxOf (-1 - hd):Int)) [],kK S (-1 - hd)):=by rw [Tm.num,if_pos fM]
   rw [Dh]
   refine aK.go 1000 ?_
   simp only [go_sem,lp,DE,ha,fM,fh]
   have hb:(kK S (-1 - hd)).length<2000000000:=by have:=Pb S (-1 - hd);omega
   have Gn:(kK S (-1 - hd)).idxOf (-1 - hd)≤(kK S (-1 - hd)).length:=List.idxOf_le_length
   refine K5 (Yik S (-1 - hd) (by omega)) ⟨trivial,jc,trivial⟩ ⟨trivial,trivial⟩ ?_
   refine aK.go 1000 ?_
   have hw:IntKind.i64.wrap (-1 - (((kK S (-1 - hd)).idxOf (-1 - hd):Nat):Int)) = -1 - (((kK S (-1 - hd)).idxOf (-1 - hd):Nat):Int):=ep (by omega)
   simp only [go_sem,hw]
   rw [PX]
   refine ⟨(Tm.mk (-1 - (((kK S (-1 - hd)).idxOf (-1 - hd):Nat):Int)) []).aN,lp (kK S (-1 - hd)),?_,?_,rfl,Kd _,dE _,rfl,rfl⟩
   ·rw [← FK];exact ⟨rfl,rfl,cH _ _ _⟩
   ·simp [lp,ig]
  ·have Dh:(Tm.mk hd ts).num S=(.mk hd (Tm.fU ts S).1,(Tm.fU ts S).2):=by rw [Tm.num,if_neg fM]
   rw [Dh]
   obtain ⟨Z,hZ⟩:∃ Z,Tm.fU ts S=Z:=⟨_,rfl⟩
   rw [hZ]
   refine aK.go 1000 ?_
   simp only [go_sem,lp,DE,ha,fM,ao]
   refine aK.gS (ι:={q:Nat×List Tm×List Int // q.1≤ts.length∧Z=(q.2.1++(Tm.fU (ts.drop q.1) q.2.2).1,(Tm.fU (ts.drop q.1) q.2.2).2)∧q.2.1.length=q.1∧q.2.2.length+Tm.bG (ts.drop q.1)≤S.length+Tm.bG ts}) 1000
    (fun q=>fD 39 [(2, .ptr 2 0),(4, .ptr 4 0),(5, .ptr 5 0),(23, .ps 2 (ts.map Tm.aN)),(24, .int .i64 ts.length),(25, .int .i64 q.1.1)])
    (fun q=>[ko q.1.2.2,kn,some (.var [.fn 113 [] [.ptr 1 0]]),none,some (.var [.int .i64 0, .aU]),some (.var [.int .i64 hd,ja 6 2 (q.1.2.1.map Tm.aN)]),eJ (q.1.2.1.map Tm.aN)])
    (fun q=>ts.length - q.1.1) ⟨(0,[],S),by omega,by simp [hZ],rfl,ah _⟩ [] ?_ (fun _=>by simp) ?_
   ·refine iF rfl ?_
    simp only [go_sem,aS,tK,td,bP,cz (bP _),ko,kn]
   ·rintro ⟨⟨i,L,S'⟩,hi,aO,hL,yv⟩
    simp only at hi aO hL yv
    simp only [Tm.args] at ft l9
    by_cases bD:(i:Int)<ts.length
    ·have aZ:i<ts.length:=by omega
     have hw:IntKind.i64.wrap ((i:Int)+1)=((i+1:Nat):Int):=by rw [ep (by omega)];omega
     have hg:(ts.map Tm.aN).getD i .undef=ts[i].aN:=nP aZ
     rw [ak aZ,Tm.fU] at aO
     rw [ak aZ,Tm.bG] at yv
     have qs:=Iq (xm hf) i aZ
     simp only [Tm.args] at qs
     have a1:=Cb ts i aZ
     have a2:=B8 ts (i+1)
     simp only [go_sem,bD,ao,hg,fq]
     refine ⟨by omega,?_⟩
     refine aK.draw [⟨none,[],[0,8]⟩,⟨none,[],[0,8]⟩, .no, .no,⟨none,[0],[]⟩,⟨some 8,[8],[]⟩,⟨some 9,[6,9],[]⟩, .no,⟨none,[5],[]⟩] 8 10 mixed rfl rfl (by decide) ?_
     simp only [go_sem,dA]
     obtain ⟨x,hx⟩:∃ x,ts[i]=x:=⟨_,rfl⟩
     simp only [hx] at qs a1 aO yv ⊢
     have AE:=LQ x S'
     have sP:=Tn n x S' (by omega) (by omega) qs (by omega)
     rw [dc x] at sP
     generalize hz:x.num S'=z at *
     obtain ⟨y,S2⟩:=z
     simp only at sP aO AE
     refine Ykc sP ⟨trivial,trivial⟩ ⟨⟨⟨trivial,jc,trivial⟩,trivial⟩,⟨trivial,bP _,trivial⟩,trivial⟩ ?_
     have h3:bF ([ko S2,kn,some (bE.var [.fn 113 [] [.ptr 1 0]]),none,some (.var [.int .i64 0, .aU]),some (.var [.int .i64 hd,ja 6 2 (L.map Tm.aN)]),eJ (L.map Tm.aN),some (.var [.int .i64 x.head, .ps 2 (x.args.map Tm.aN)]),some (.row [y.aN] 0),none]) 6=eJ (L.map Tm.aN):=rfl
     have m8:=of_eq_true (Ck [y])
     rw [show [y].map Tm.aN=[y.aN] from rfl] at m8
     have sR:List.take 1 [y.aN]=[y.aN]:=rfl
     simp only [go_sem,uQ h3,m8,ao,sR,fq]
     refine ⟨by omega,?_⟩
     refine aK.go 1000 ?_
     simp only [go_sem,hw]
     refine ⟨⟨(i+1,L++[y],S2),by simp only;omega,by simp only;rw [aO];simp,by simp [hL],by simp only;omega⟩,[(6,9),(9,6)],iF rfl ?_,by simp only;omega⟩
     have lw:bx 0 ((L++[y]).map Tm.aN):=bP _
     dsimp only
     rw [cN] at lw ⊢
     rw [u_ (by simp),u9 (by simp)]
     simp only [aI,aS] at lw
     simp only [go_sem,ko,kn,bP,cz (bP _),cz lw,ie (av 7) lw,ao,au,aR,aI,aS]
    ·have dR:i=ts.length:=by omega
     subst dR
     rw [aV,Tm.fU,bn] at aO
     subst aO
     simp only [go_sem,bD]
     refine aK.go 1000 ?_
     simp only [go_sem,xH]
     rw [PX]
     refine ⟨(Tm.mk hd L).aN,lp S',?_,by simp [lp,kn,ig],rfl,Kd _,dE _,rfl,rfl⟩
     rw [← FK]
     refine ⟨rfl,?_,cH _ _ _⟩
     rw [rN rfl rfl];trivial
def wv (l:List Tm):List Tm×Int:=if iD l then ([],1) else ((Tm.fU l []).1,0)
theorem Ykx (l:List Tm) (hs:Tm.bG l<99999999) (hf:Tm.fits l):aJ Tryz.prog 73 [.ps 2 (l.map Tm.aN)] (.dy [.ps 2 ((wv l).1.map Tm.aN), .int .i64 (wv l).2]):=by
 refine aJ.begin (rs:=[.tmp 2, .tmp 3]) (m:=27) 1000 Tryz.func73 rfl rfl rfl (by decide) ⟨bP _,trivial,trivial⟩ ?_
 have l9:=qb l
 have hw:=KF l (by omega) (fun t ht=>by have:=tb ht;omega)
 unfold wv
 simp only [go_sem]
 refine aq.bU [] (hw) (by (try simp only [dc]);exact cH _ _ _) (by simp [go_sem,dE,bP]) ?_;simp only [bL,bZ,bX,if_true];refine aK.go 1000 ?_
 cases hW:iD l
 case' true=>simp only [go_sem,aS]
 case' false =>
  obtain ⟨Z,hZ⟩:∃ Z,Tm.fU l []=Z:=⟨_,rfl⟩
  rw [hZ]
  simp only [go_sem,ao]
  refine aK.gS (ι:={q:Nat×List Tm×List Int // q.1≤l.length∧Z=(q.2.1++(Tm.fU (l.drop q.1) q.2.2).1,(Tm.fU (l.drop q.1) q.2.2).2)∧q.2.1.length=q.1∧q.2.2.length+Tm.bG (l.drop q.1)≤Tm.bG l}) 1000
   (fun q=>fD 28 [(5, .ptr 2 0),(6,ja 3 2 (q.1.2.1.map Tm.aN)),(14, .ps 2 (l.map Tm.aN)),(15, .int .i64 l.length),(16, .int .i64 q.1.1)])
   (fun q=>[ko q.1.2.2,kn,some (.var [.fn 113 [] [.ptr 1 0]]),eJ (q.1.2.1.map Tm.aN)])
   (fun q=>l.length - q.1.1) ⟨(0,[],[]),by omega,by simp [hZ],rfl,by simp⟩ [] ?_ (fun _=>by simp) ?_
  ·refine iF rfl ?_
   simp only [go_sem,aS,tK,td,bP,cz (bP _),ko,kn,show ni []=[] from rfl,show ri []=[] from rfl]
  ·rintro ⟨⟨i,L,S⟩,hi,aO,hL,ft⟩
   simp only at hi aO hL ft
   by_cases bD:(i:Int)<l.length
   ·have aZ:i<l.length:=by omega
    have hw:IntKind.i64.wrap ((i:Int)+1)=((i+1:Nat):Int):=by rw [ep (by omega)];omega
    have hg:(l.map Tm.aN).getD i .undef=l[i].aN:=nP aZ
    rw [ak aZ,Tm.fU] at aO
    rw [ak aZ,Tm.bG] at ft
    have qs:=Iq hf i aZ
    obtain ⟨x,hx⟩:∃ x,l[i]=x:=⟨_,rfl⟩
    have a1:=A5 l i aZ
    simp only [hx] at qs aO ft hg a1
    have AE:=LQ x S
    simp only [go_sem,bD,ao,hg,fq]
    refine ⟨by omega,?_⟩
    have sP:=Tn x.size x S (ah _) (by omega) qs (by omega)
    rw [dc x] at sP
    generalize hz:x.num S=z at *
    obtain ⟨y,S2⟩:=z
    simp only at sP aO AE
    refine K5 sP ⟨trivial,trivial⟩ ⟨⟨⟨trivial,jc,trivial⟩,trivial⟩,⟨trivial,bP _,trivial⟩,trivial⟩ ?_
    have h3:bF [ko S2,kn,some (bE.var [.fn 113 [] [.ptr 1 0]]),eJ (L.map Tm.aN),some (.var [.int .i64 x.head, .ps 2 (x.args.map Tm.aN)]),some (.row [y.aN] 0)] 3=eJ (L.map Tm.aN):=rfl
    have m8:=of_eq_true (Ck [y])
    rw [show [y].map Tm.aN=[y.aN] from rfl] at m8
    have sR:List.take 1 [y.aN]=[y.aN]:=rfl
    refine aK.go 1000 ?_
    simp only [go_sem,uQ h3,m8,ao,sR,fq,hw]
    refine ⟨by omega,?_⟩
    refine ⟨⟨(i+1,L++[y],S2),by simp only;omega,by simp only;rw [aO];simp,by simp [hL],by simp only;omega⟩,[(3,6),(6,3)],iF rfl ?_,by simp only;omega⟩
    have lw:bx 0 ((L++[y]).map Tm.aN):=bP _
    dsimp only
    rw [cN] at lw ⊢
    rw [u_ (by simp),u9 (by simp)]
    simp only [aI,aS] at lw
    simp only [go_sem,ko,kn,bP,cz (bP _),cz lw,ie (av 4) lw,ao,au,aR,aI,aS]
   ·have dR:i=l.length:=by omega
    subst dR
    rw [aV,Tm.fU,bn] at aO
    subst aO
    simp only [go_sem,bD]
    refine aK.go 1000 ?_
    simp only [go_sem,xH]
    rw [rN rfl rfl];trivial
def xy:List Li→List Tm→List Li
 | l :: c,a :: b :: ts=>⟨l.neg,a,b⟩ :: xy c ts
 | _,_=>[]
def w9 (c:List Li):List Li:=xy c (Tm.fU (cT c) []).1
def kJ (c:List Li):List Li×Int:=if iD (cT c) then ([],1) else (w9 c,0)
theorem ZO (c:List Li) (ts:List Tm) (i:Nat) (hi:i<c.length) (h:ts.length=2*c.length) :
  xy (c.drop i) (ts.drop (2*i))=⟨c[i].neg,ts[2*i]'(by omega),ts[2*i+1]'(by omega)⟩ :: xy (c.drop (i+1)) (ts.drop (2*(i+1))):=by
 rw [ak hi,ak (by omega : 2*i<ts.length),ak (by omega : 2*i+1<ts.length),xy]
 rfl
theorem Qu:∀ (ts:List Tm) (S:List Int),(Tm.fU ts S).1.length=ts.length
 | [],_=>rfl
 | t :: ts,S=>by rw [Tm.fU];simp [Qu ts]
theorem Yye (c:List Li) (ts:List Tm) (h:ts.length=2*c.length) (hc:c.length<1000000):aJ Tryz.prog 75 [.ps 5 (lits c), .ps 2 (ts.map Tm.aN)] (.ps 5 (lits (xy c ts))):=by
 refine aJ.begin (rs:=[.tmp 4]) (m:=32) 1000 Tryz.func75 rfl rfl rfl (by decide) (ct _) ?_
 obtain ⟨Z,hZ⟩:∃ Z,xy c ts=Z:=⟨_,rfl⟩
 rw [hZ]
 simp only [go_sem,fO]
 refine aK.gS (ι:={q:Nat×List Li // q.1≤c.length∧Z=q.2++xy (c.drop q.1) (ts.drop (2*q.1))∧q.2.length=q.1}) 1000
  (fun q=>fD 34 [(1, .ps 2 (ts.map Tm.aN)),(5,ja 0 5 (lits q.1.2)),(8, .ps 5 (lits c)),(9, .int .i64 c.length),(10, .int .i64 q.1.1)])
  (fun q=>[eJ (lits q.1.2)]) (fun q=>c.length - q.1.1) ⟨(0,[]),av _,by simp [hZ],rfl⟩ [] ?_ (fun _=>by simp) ?_
 ·refine iF rfl ?_
  simp only [go_sem,ct,cz (ct _),show lits []=[] from rfl,tK,td,bP,cz (bP _)]
 ·rintro ⟨⟨i,L⟩,hi,aO,hL⟩
  simp only at hi aO hL
  by_cases bD:(i:Int)<c.length
  ·have aZ:i<c.length:=by omega
   have hw:IntKind.i64.wrap ((i:Int)+1)=((i+1:Nat):Int):=by rw [ep (by omega)];omega
   have re:IntKind.i64.wrap (2*(i:Int))=((2*i:Nat):Int):=by rw [ep (by omega)];omega
   have Dp:IntKind.i64.wrap (((2*i:Nat):Int)+1)=((2*i+1:Nat):Int):=by rw [ep (by omega)];omega
   have g1:=tG aZ
   rw [ZO c ts i aZ h] at aO
   have l1 : 2*i<ts.length:=by omega
   have l2 : 2*i+1<ts.length:=by omega
   have l1':((2*i:Nat):Int)<ts.length:=by omega
   have l2':((2*i+1:Nat):Int)<ts.length:=by omega
   have gt1:(ts.map Tm.aN).getD (2*i) .undef=(ts[2*i]).aN:=nP l1
   have gt2:(ts.map Tm.aN).getD (2*i+1) .undef=(ts[2*i+1]).aN:=nP l2
   generalize ts[2*i]=a at *
   generalize ts[2*i+1]=b at *
   generalize c[i]=l at *
   simp only [go_sem,bD,fO,g1,ku]
   refine ⟨by omega,?_⟩
   refine aK.draw [⟨none,[],[2]⟩, .no, .no, .no, .no, .no, .no, .no, .no, .no, .no, .no, .no, .no, .no,⟨some 2,[2],[]⟩,⟨some 3,[0,3],[]⟩] 2 4 mixed rfl rfl (by decide) ?_
   have h2:bF [eJ (lits L),some (.var [.bool l.neg, .int .i64 l.l.head, .ps 2 (l.l.args.map Tm.aN), .int .i64 l.r.head, .ps 2 (l.r.args.map Tm.aN)]),some (.row [.agg [.bool l.neg, .int .i64 a.head, .ps 2 (a.args.map Tm.aN), .int .i64 b.head, .ps 2 (b.args.map Tm.aN)]] 0),none] 0=eJ (lits L):=rfl
   have BN:lits [(⟨l.neg,a,b⟩:Li)]=[.agg [.bool l.neg, .int .i64 a.head, .ps 2 (a.args.map Tm.aN), .int .i64 b.head, .ps 2 (b.args.map Tm.aN)]]:=rfl
   have m8:=of_eq_true (LS [(⟨l.neg,a,b⟩:Li)])
   rw [BN] at m8
   have qQ:lits (L++[(⟨l.neg,a,b⟩:Li)])=lits L++[.agg [.bool l.neg, .int .i64 a.head, .ps 2 (a.args.map Tm.aN), .int .i64 b.head, .ps 2 (b.args.map Tm.aN)]]:=by rw [← BN];simp [lits]
   have lw:bx 0 (lits (L++[(⟨l.neg,a,b⟩:Li)])):=ct _
   have sR:List.take 1 [ae.agg [.bool l.neg, .int .i64 a.head, .ps 2 (a.args.map Tm.aN), .int .i64 b.head, .ps 2 (b.args.map Tm.aN)]]=[.agg [.bool l.neg, .int .i64 a.head, .ps 2 (a.args.map Tm.aN), .int .i64 b.head, .ps 2 (b.args.map Tm.aN)]]:=rfl
   simp only [go_sem,dA,re,Dp,ao,gt1,gt2,l1',l2',fq,uQ h2,m8,fO,sR]
   refine ⟨by omega,by omega,by omega,?_⟩
   refine aK.go 1000 ?_
   simp only [go_sem,hw]
   refine ⟨⟨(i+1,L++[(⟨l.neg,a,b⟩:Li)]),by simp only;omega,by simp only;rw [aO];simp,by simp [hL]⟩,[(0,3),(3,0)],iF rfl ?_,by simp only;omega⟩
   dsimp only
   rw [qQ] at lw ⊢
   rw [u_ (by simp),u9 (by simp)]
   simp only [go_sem,ct,fO,cz (ct _),bP,cz (bP _),cz lw,ie (av 1) lw,ao,au,aR]
  ·have dR:i=c.length:=by omega
   subst dR
   rw [aV,xy.eq_2 _ _ (by simp),bn] at aO
   subst aO
   simp only [go_sem,bD]
   refine aK.go 1000 ?_
   simp only [go_sem,xH]
   rw [rN rfl rfl];trivial
theorem Ymi {c:List Li} (h:lE c):∀ t∈cT c,t.size<99999999∧t.fit:=fun t ht=>by
 unfold cT at ht
 rw [oI] at ht
 obtain ⟨l,hl,ht⟩:=ht
 obtain ⟨⟨a1,a2⟩,a3,a4⟩:=h.1 l hl
 simp only [aP,dO,or_false] at ht
 rcases ht with rfl | rfl
 ·exact ⟨a2,a1⟩
 ·exact ⟨a4,a3⟩
theorem T2:∀ {ts:List Tm},(∀ t∈ts,t.fit)→Tm.fits ts
 | [],_=>trivial
 | t :: ts,h=>⟨h t (by simp),T2 fun x hx=>h x (by simp [hx])⟩
theorem Ig (c:List Li) (hc:lE c) (hs:Tm.bG (cT c)<99999999):aJ Tryz.prog 34 [.ps 5 (lits c)] (.dy [.ps 5 (lits (kJ c).1), .int .i64 (kJ c).2]):=by
 refine aJ.begin (rs:=[.tmp 2, .tmp 3]) (m:=17) 1000 Tryz.func34 rfl rfl rfl (by decide) ⟨ct _,trivial,trivial⟩ ?_
 have h1:=Yb c hc.2
 have h2:=Ykx (cT c) hs (T2 fun t ht=>(Ymi hc t ht).2)
 have hn:(Tm.fU (cT c) []).1.length=2*c.length:=by rw [Qu,E7]
 have h3:=Yye c (Tm.fU (cT c) []).1 hn hc.2
 have hz:kJ c=if iD (cT c) then ([],1) else (xy c (Tm.fU (cT c) []).1,0):=rfl
 have hy:wv (cT c)=if iD (cT c) then ([],1) else ((Tm.fU (cT c) []).1,0):=rfl
 simp only [go_sem]
 refine aq.bU [] (h1) (by (try simp only [dc]);exact cH _ _ _) (by simp [go_sem,dE,bP,ct]) ?_;rw [jd];simp only [ite_self];refine aK.go 1000 ?_
 simp only [go_sem]
 refine aq.bU [] (h2) (by (try simp only [dc]);exact cH _ _ _) (by simp [go_sem,dE,bP,ct]) ?_;rw [jd];simp only [ite_self];refine aK.go 1000 ?_
 rw [hy,hz]
 cases hW:iD (cT c)
 case' true=>simp only [go_sem,show lits []=[] from rfl]
 case' false =>
  simp only [go_sem]
  refine aq.bU [] (h3) (by (try simp only [dc]);exact cH _ _ _) (by simp [go_sem,dE,bP,ct]) ?_;rw [jd];simp only [ite_self];refine aK.go 1000 ?_
  simp only [go_sem]
structure Wk where
 d:List Li
 u:List Int
 gone:Int
 sy:Int
 e:Int
def kr (g:List Sy) (es:List (List Li)) (W:Wk) (j:Nat):Option bE:=some (.var [.ps 4 (syms g), .ps 1 (cP es), .ps 5 (lits W.d),ja j 1 (ints W.u), .int .i64 W.gone, .int .i64 W.sy, .int .i64 W.e])
def o8 (g:List Sy) (es:List (List Li)) (W:Wk) (j:Nat):ai:=kr g es W (j+1) :: (List.replicate j none++[eJ (ints W.u)])
def jz (k:Int) (W:Wk):Wk:=if k∈W.u then W else { W with u:=W.u++[k] }
theorem Yqs (g:List Sy) (es:List (List Li)) (W:Wk) {j n:Nat} (h:j<n):ji n (kr g es W j):=by
 unfold kr
 exact ⟨dF _,eZ _,ct _,Bl h _ _,trivial,trivial,trivial,trivial⟩
theorem Yms (l:List Int) {n:Nat}:ji n (eJ (ints l)):=zU _ (dp l)
theorem FF (g:List Sy) (es:List (List Li)) (W:Wk) (j:Nat):(o8 g es W j).length=j+2:=by simp [o8]
theorem Ly (g:List Sy) (es:List (List Li)) (W:Wk) (j:Nat) {n:Nat} (h:j+2≤n):bt n (o8 g es W j):=by
 unfold o8
 refine ⟨Yqs g es W (by omega),?_⟩
 induction j with
 | zero=>exact ⟨Yms _,trivial⟩
 | succ j ih =>
  rw [fw,bj,Q0]
  exact ih (by omega)
def zA (g:List Sy) (es:List (List Li)) (R:ae→Nat→Wk→Prop) (r:ae) (σ':ai):Prop:=∃ m W',R r m W'∧σ'=o8 g es W' m
theorem xl {g:List Sy} {es:List (List Li)} {R:ae→Nat→Wk→Prop} {r:ae} {S:ai} (m:Nat) (W':Wk) (h:R r m W') (hr:r.low 0) (hS:ig (o8 g es W' m) S):my (zA g es R) 2 r S:=by
 rw [fL]
 exact ⟨o8 g es W' m,hS,by rw [FF];omega,Ly g es W' m (by rw [FF];omega),mP (av _) hr,m,W',h,rfl⟩
def Oa (k:Int) (W:Wk) (r:ae) (m:Nat) (W':Wk):Prop:=r = .dy []∧W'=jz k W∧(m=0∨m=2)
theorem z_ (g:List Sy) (es:List (List Li)) (W:Wk):o8 g es W 0=[some (.var [.ps 4 (syms g), .ps 1 (cP es), .ps 5 (lits W.d),ja 1 1 (ints W.u), .int .i64 W.gone, .int .i64 W.sy, .int .i64 W.e]),eJ (ints W.u)]:=rfl
theorem Py (g:List Sy) (es:List (List Li)) (W:Wk) (k:Int) (hu:W.u.length<1000000):aq Tryz.prog (.fn 69 [] []) [.ptr 0 0, .int .i64 k] (o8 g es W 0) (zA g es (Oa k W)):=by
 refine aq.begin (rs:=[]) (m:=19) 1000 Tryz.func69 rfl rfl rfl rfl rfl ?_
 rw [z_]
 simp only [go_sem]
 refine aq.bU [1] (Hk W.u k (by omega)) ?_ ⟨dp _,trivial,trivial⟩ ?_
 ·simp only [go_sem,qB,qC,rN]
 simp only [bL,bZ,bX,if_true]
 refine aK.go 1000 ?_
 by_cases c:k∈W.u
 ·simp only [go_sem,c]
  exact xl 0 W ⟨rfl,by unfold jz;rw [if_pos c], .inl rfl⟩ trivial (fx _)
 ·have h2:bF [some (.var [.ps 4 (syms g), .ps 1 (cP es), .ps 5 (lits W.d),ja 1 1 (ints W.u), .int .i64 W.gone, .int .i64 W.sy, .int .i64 W.e]),eJ (ints W.u),some (.row [.int .i64 k] 0)] 1=eJ (ints W.u):=rfl
  have m8:eL ⟨1,false,8,[.int .i64 0], .int .i64⟩ [.int .i64 k]:=⟨fun x hx=>by rw [aQ.1 hx];exact ⟨rfl,rfl⟩,by decide,by decide,rfl⟩
  have hle:W.u.length+1≤6000000000000:=by omega
  simp only [go_sem,c,uQ h2,kV,m8,hle]
  refine xl 2 { W with u:=W.u++[k] } ⟨rfl,by unfold jz;rw [if_neg c], .inr rfl⟩ trivial ?_
  unfold o8 kr
  simp only
  rw [Cj,u_ (by simp),u9 (by simp),kV]
  simp [ig,List.replicate]
theorem Ln (g:List Sy) (es:List (List Li)) (W:Wk) (j:Nat) (π:Nat→Nat):(kr g es W j).map (dG π)=kr g es W (π j):=by
 unfold kr
 rw [bw]
 simp [dG,dY,dI,Yqw,cz (dF _),cz (eZ _),cz (ct _)]
theorem Lg (l:List Int) (π:Nat→Nat):(eJ (ints l)).map (dG π)=eJ (ints l):=by
 cases l with
 | nil=>rfl
 | cons a t =>
  have lw:bx 0 (ints (a :: t)):=dp _
  show Option.map (dG π) (some (.row (ints (a :: t)) 0)) = _
  rw [bw,xk,cz lw];rfl
def VY (g:List Sy) (es:List (List Li)) (σ:ai) (a j:Nat) (W':Wk):Nat→ai
 | 0=>(σ.set a (kr g es W' j)).set j (eJ (ints W'.u))
 | m+1=>(σ.set a (kr g es W' (σ.length+m))).set j none++(List.replicate m none++[eJ (ints W'.u)])
theorem Hh {g:List Sy} {es:List (List Li)} {W:Wk} {R:ae→Nat→Wk→Prop} {f f':ae} {args args':List ae} {σ:ai} {K:ae→ai→Prop} (a j:Nat) (Vl:a≠j) (h0 : σ[a]? = some (kr g es W j)) (h1 : σ[j]? = some (eJ (ints W.u)))
  (hf:f.low 2) (nU:dI (fun b=>if b=0 then a else j) f=f') (ha:bx 2 args) (ha':dY (fun b=>if b=0 then a else j) args=args')
  (h:aq Tryz.prog f args (o8 g es W 0) (zA g es R)) (hr:∀ r m W',R r m W'→r.low 0) (hk:∀ r m W',R r m W'→K r (VY g es σ a j W' m)):aq Tryz.prog f' args' σ K:=by
 have l9:a < σ.length:=(aH.1 h0).1
 have BF:j < σ.length:=(aH.1 h1).1
 have hZ:(o8 g es W 0).length=2:=FF g es W 0
 refine aq.l7 (Z:=o8 g es W 0) (fun b=>if b=0 then a else j) (fun b b' h1 h2 e=>?_) (fun b hb=>?_) (fun b hb=>?_) (by rw [hZ];exact hf) nU (by rw [hZ];exact ha) ha' (by rw [hZ];exact Ly g es W 0 (ah _)) h ?_
 ·rw [hZ] at h1 h2
  split at e<;>split at e<;>first | omega | exact absurd e Vl | exact absurd e.symm Vl
 ·split<;>assumption
 ·rw [hZ] at hb
  match b,hb with
  | 0,_=>exact ⟨kr g es W 1,rfl,by rw [Ln];exact h0⟩
  | 1,_=>exact ⟨eJ (ints W.u),rfl,by rw [Lg];exact h1⟩
 rintro r Z' ⟨m,W',hR,rfl⟩
 have Je:=hr r m W' hR
 rw [hZ]
 refine ⟨by rw [FF];omega,by rw [FF];exact Ly g es W' m (ah _),mP (av _) Je,?_⟩
 rw [zT Je]
 have he:jJ (fun b=>if b=0 then a else j) 2 (o8 g es W' m) σ=VY g es σ a j W' m:=by
  cases m with
  | zero =>
   show fc _ _ 0 [kr g es W' 1,eJ (ints W'.u)] σ++[] = _
   rw [bn,fc,fc,fc,Ln,Lg];rfl
  | succ m =>
   show fc _ _ 0 [kr g es W' (m+2),none] σ++(List.replicate m none++[eJ (ints W'.u)]).map _ = _
   rw [fc,fc,fc,Ln,cN,List.map_replicate,aI,aS,Lg]
   have:mX (fun b=>if b=0 then a else j) 2 σ.length (m+2) = σ.length+m:=by unfold mX;rw [if_neg (by omega)];omega
   rw [this];rfl
 rw [he]
 exact hk r m W' hR
def ru (z:Int×Wk) (r:ae) (m:Nat) (W':Wk):Prop:=r = .int .i64 z.1∧W'=z.2∧(m=0∨z.1=1∧(m=1∨m=4))
def gO (W:Wk):Int×Wk:=if nk W.d=true then (2,{ W with gone:=1 }) else (0,W)
def nh:Nat→List (List Li)→List Li→Option Nat
 | _,[],_=>none
 | k,c :: es,d=>if (sw c d).2=0∧(sw c d).1=true then some k else nh (k+1) es d
def jk (es:List (List Li)) (W:Wk):Int×Wk:=match nh 0 es W.d with
 | some k=>(2,{ W with gone:=2,sy:=(k:Int) })
 | none=>(0,W)
theorem YG (g:List Sy) (es:List (List Li)) (W:Wk) (hd:lE W.d):aq Tryz.prog (.fn 30 [.ptr 0 0] []) [] (o8 g es W 0) (zA g es (ru (gO W))):=by
 refine aq.begin (rs:=[.tmp 2]) (m:=11) 1000 Tryz.func30 rfl rfl rfl rfl rfl ?_
 rw [z_]
 have hT:=Ym5 W.d hd
 simp only [go_sem]
 refine aq.bU [] hT (cH _ _ _) ⟨ct _,trivial⟩ ?_
 simp only [bL,bZ,bX,if_true]
 refine aK.go 1000 ?_
 cases h:nk W.d
 ·simp only [go_sem]
  exact xl 0 W ⟨by unfold gO;rw [h];rfl,by unfold gO;rw [h];rfl, .inl rfl⟩ trivial (fx _)
 ·simp only [go_sem]
  exact xl 0 { W with gone:=1 } ⟨by unfold gO;rw [h];rfl,by unfold gO;rw [h];rfl, .inl rfl⟩ trivial (fx _)
theorem ZZ (g:List Sy) (es:List (List Li)) (W:Wk) (oB:∀ c∈es,lE c) (hl:es.length<1000000) (hd:lE W.d):aq Tryz.prog (.fn 33 [.ptr 0 0] []) [] (o8 g es W 0) (zA g es (ru (jk es W))):=by
 refine aq.l6 (rs:=[.tmp 2]) (m:=38) Tryz.func33 rfl rfl rfl rfl rfl ?_
 rw [show (o8 g es W 0).length=2 from rfl,z_]
 refine aK.go 1000 ?_
 simp only [go_sem,mr]
 refine aK.c9 (ι:={i:Nat // i≤es.length∧nh i (es.drop i) W.d=nh 0 es W.d}) 1000 (fun i=>fD 39 [(0, .ptr 0 0),(2, .int .i64 0),(10, .ps 1 (cP es)),(11, .int .i64 es.length),(12, .int .i64 i.1)])
  (fun _=>o8 g es W 0) (fun i=>es.length - i.1) ⟨0,av _,rfl⟩ ?_ (fun _=>ah _) ?_
 ·rw [z_]
  simp only [go_sem,eZ,dp,sF,dF,ct]
 ·rintro ⟨i,hi,aO⟩
  rw [z_]
  by_cases bD:(i:Int)<es.length
  ·have aZ:i<es.length:=by omega
   have hw:IntKind.i64.wrap ((i:Int)+1)=((i+1:Nat):Int):=by rw [ep (by omega)];omega
   rw [ak aZ,nh] at aO
   have g1:=y_ aZ
   have hc:=oB _ (aF aZ)
   generalize es[i]=c at *
   have hS:=Ylk c W.d hc hd
   simp only [go_sem,bD,mr,g1]
   refine ⟨by omega,?_⟩
   refine aq.bU [] hS (cH _ _ _) ⟨ct _,ct _,trivial⟩ ?_
   rw [jd];simp only [ite_self]
   refine aK.go 1000 ?_
   generalize sw c W.d=z at *
   obtain ⟨z1,z2⟩:=z
   simp only at aO ⊢
   have hend:my (zA g es (ru (jk es W))) 2 (.int .i64 2) [some (.var [.ps 4 (syms g), .ps 1 (cP es), .ps 5 (lits W.d),ja 1 1 (ints W.u), .int .i64 2, .int .i64 i, .int .i64 W.e]),eJ (ints W.u)]∨¬ (z2=0∧z1=true):=by
    by_cases hz:z2=0∧z1=true
    ·rw [if_pos hz] at aO
     exact .inl (xl 0 { W with gone:=2,sy:=(i:Int) } ⟨by unfold jk;rw [← aO],by unfold jk;rw [← aO], .inl rfl⟩ trivial (fx _))
    ·exact .inr hz
   have vu:¬ (z2=0∧z1=true)→nh (i+1) (es.drop (i+1)) W.d=nh 0 es W.d:=fun hz=>by rw [if_neg hz] at aO;exact aO
   clear aO
   by_cases h2:z2=0
   ·subst h2
    cases z1
    ·simp only [go_sem,hw]
     refine ⟨⟨i+1,by omega,vu (by simp)⟩,?_,by simp only;omega⟩
     exact ⟨rfl,eZ _,⟨dF _,eZ _,ct _⟩,dp _⟩
    ·simp only [go_sem,hw]
     refine aK.go 1000 ?_
     simp only [go_sem]
     exact hend.resolve_right (by simp)
   ·simp only [go_sem,h2,hw]
    refine ⟨⟨i+1,by omega,vu (by simp [h2])⟩,?_,by simp only;omega⟩
    exact ⟨rfl,eZ _,⟨dF _,eZ _,ct _⟩,dp _⟩
  ·have dR:i=es.length:=by omega
   subst dR
   rw [aV,nh] at aO
   simp only [go_sem,bD]
   refine aK.go 1000 ?_
   simp only [go_sem]
   refine xl 0 W ⟨by unfold jk;rw [← aO],by unfold jk;rw [← aO], .inl rfl⟩ trivial (fx _)
def kX:Nat→List (List Li)→List Li→Option (Nat×Nat)
 | _,[],_=>none
 | k,c :: es,d=>if (mW c d).2.2=0∧(mW c d).2.1=true then some (k,(mW c d).1.toNat) else kX (k+1) es d
def lO (es:List (List Li)) (W:Wk):Int×Wk:=match kX 0 es W.d with
 | some x=>(1,jz (x.1:Int) { W with d:=W.d.eraseIdx x.2 })
 | none=>(0,W)
theorem Yq3 {c d:List Li} {k:Nat} (h:vg c d=some k):k<d.length:=by
 unfold vg at h
 simpa using bQ h
theorem OQ {c d:List Li} (h:(mW c d).2.2=0∧(mW c d).2.1=true):∃ i:Nat,(mW c d).1=(i:Int)∧i<d.length:=by
 unfold mW at h ⊢
 split at h
 ·cases h.2
 ·rename_i h0
  rw [if_neg h0]
  cases hk:vg c d with
  | none=>rw [hk] at h;cases h.2
  | some k=>exact ⟨k,rfl,Yq3 hk⟩
theorem Yrc (g:List Sy) (es:List (List Li)) (W:Wk) (oB:∀ c∈es,lE c) (hl:es.length<1000000) (hd:lE W.d) (hu:W.u.length<1000000):aq Tryz.prog (.fn 32 [.ptr 0 0] []) [] (o8 g es W 0) (zA g es (ru (lO es W))):=by
 refine aq.l6 (rs:=[.tmp 2]) (m:=48) Tryz.func32 rfl rfl rfl rfl rfl ?_
 rw [show (o8 g es W 0).length=2 from rfl,z_]
 refine aK.go 1000 ?_
 simp only [go_sem,mr]
 refine aK.c9 (ι:={i:Nat // i≤es.length∧kX i (es.drop i) W.d=kX 0 es W.d}) 1000 (fun i=>fD 49 [(0, .ptr 0 0),(2, .int .i64 0),(11, .ps 1 (cP es)),(12, .int .i64 es.length),(13, .int .i64 i.1)])
  (fun _=>o8 g es W 0) (fun i=>es.length - i.1) ⟨0,av _,rfl⟩ ?_ (fun _=>ah _) ?_
 ·rw [z_]
  simp only [go_sem,eZ,dp,sF,dF,ct]
 ·rintro ⟨i,hi,aO⟩
  rw [z_]
  by_cases bD:(i:Int)<es.length
  ·have aZ:i<es.length:=by omega
   have hw:IntKind.i64.wrap ((i:Int)+1)=((i+1:Nat):Int):=by rw [ep (by omega)];omega
   rw [ak aZ,kX] at aO
   have g1:=y_ aZ
   have hc:=oB _ (aF aZ)
   generalize es[i]=c at *
   have hS:=Yrk c W.d hc hd
   have gK:=fun h=>OQ (c:=c) (d:=W.d) h
   simp only [go_sem,bD,mr,g1]
   refine ⟨by omega,?_⟩
   refine aq.bU [] hS (cH _ _ _) ⟨ct _,ct _,trivial⟩ ?_
   rw [jd];simp only [ite_self]
   refine aK.go 1000 ?_
   generalize mW c W.d=z at *
   obtain ⟨z1,z2,z3⟩:=z
   simp only at aO gK ⊢
   have vu:¬ (z3=0∧z2=true)→kX (i+1) (es.drop (i+1)) W.d=kX 0 es W.d:=fun hz=>by rw [if_neg hz] at aO;exact aO
   by_cases h2:z3=0
   ·subst h2
    cases z2
    ·simp only [go_sem,hw]
     refine ⟨⟨i+1,by omega,vu (by simp)⟩,?_,by simp only;omega⟩
     exact ⟨rfl,eZ _,⟨dF _,eZ _,ct _⟩,dp _⟩
    ·obtain ⟨k,rfl,hk⟩:=gK ⟨rfl,rfl⟩
     rw [if_pos ⟨rfl,rfl⟩,bV] at aO
     have EH:IntKind.i64.wrap ((k:Int)+1)=((k+1:Nat):Int):=by rw [ep (by have:=hd.2;omega)];omega
     have dX:W.d≠[]:=by intro e;rw [e] at hk;simp at hk
     have yb:=hd.2
     simp only [go_sem,hw,EH]
     refine aq.sT [] (Hz W.d dX (by omega)) (cH _ _ _) ⟨ct _,trivial⟩ ?_
     rw [jd]
     simp only [zV,zW,z7,xk,z8,up,cz (ct _)]
     refine aK.go 1000 ?_
     simp only [go_sem,bj,bf,EH]
     refine aq.Ac (f:=.fn 71 [] []) (args:=[.os 0 0 W.d.length 5, .int .i64 k, .int .i64 ((k+1:Nat):Int)]) (B:=.row (lits W.d) 0) 3 rfl (ct _) ⟨trivial,trivial⟩ ⟨cn,trivial,trivial,trivial⟩ ((J8 W.d k hk (by omega)).mono ?_)
     rintro r σ' ⟨rfl,rfl⟩
     refine ⟨cn,_,rfl,ct _,?_⟩
     have ML:W.d.take k++W.d.drop (k+1)=W.d.eraseIdx k:=(List.eraseIdx_eq_take_drop_succ W.d k).symm
     have iS:(W.d.eraseIdx k).length=W.d.length - 1:=mL hk
     rw [ML]
     simp only [go_sem,cZ,df]
     refine aK.tell [3] 42 (.ps 5 (lits (W.d.eraseIdx k))) (by simp) ?_ ?_
     ·simp only [go_sem,bB,bg,fO,iS]
      rw [bd (by rw [fO,iS];exact ah _)]
      exact cH _ _ _
     simp only [go_sem,cZ,df]
     have hU:=Py g es { W with d:=W.d.eraseIdx k } i hu
     refine aK.go 1000 ?_
     simp only [go_sem]
     refine Hh (g:=g) (es:=es) (W:={ W with d:=W.d.eraseIdx k }) (f:=.fn 69 [] []) (args:=[.ptr 0 0, .int .i64 i]) 0 1 (by decide) rfl rfl ⟨trivial,trivial⟩ rfl ⟨ek,trivial,trivial⟩ rfl hU (fun r m W' h=>by rw [h.1];trivial) ?_
     rintro r m W' ⟨rfl,Mq,hm⟩
     have hend:∀ S,ig (o8 g es W' (if m=0 then 0 else 4)) S→my (zA g es (ru (lO es W))) 2 (.int .i64 1) S:=fun S hS =>
      xl _ W' ⟨by unfold lO;rw [← aO],by unfold lO;rw [← aO];exact Mq,by split;exact .inl rfl;exact .inr ⟨by unfold lO;rw [← aO], .inr rfl⟩⟩ trivial hS
     rcases hm with rfl | rfl
     ·show aK _ _ _ _ _ ⟨_,[kr g es W' 1,eJ (ints W'.u),none,some (.row (lits (W.d.eraseIdx k)) (max 0 (lits (W.d.eraseIdx k)).length))]⟩
      refine aK.go 1000 ?_
      simp only [go_sem]
      refine aK.go 1000 ?_
      simp only [go_sem]
      exact hend _ (by simp [o8,ig])
     ·show aK _ _ _ _ _ ⟨_,[kr g es W' 5,none,none,some (.row (lits (W.d.eraseIdx k)) (max 0 (lits (W.d.eraseIdx k)).length)),none,eJ (ints W'.u)]⟩
      refine aK.go 1000 ?_
      simp only [go_sem]
      refine aK.go 1000 ?_
      simp only [go_sem]
      exact hend _ (by simp [o8,ig,List.replicate])
   ·simp only [go_sem,h2,hw]
    refine ⟨⟨i+1,by omega,vu (by simp [h2])⟩,?_,by simp only;omega⟩
    exact ⟨rfl,eZ _,⟨dF _,eZ _,ct _⟩,dp _⟩
  ·have dR:i=es.length:=by omega
   subst dR
   rw [aV,kX] at aO
   simp only [go_sem,bD]
   refine aK.go 1000 ?_
   simp only [go_sem]
   refine xl 0 W ⟨by unfold lO;rw [← aO],by unfold lO;rw [← aO], .inl rfl⟩ trivial (fx _)
def gf:List Int→Wk→Wk
 | [],W=>W
 | k :: l,W=>gf l (jz k W)
def jC (g:List Sy) (es:List (List Li)) (W:Wk):Int×Wk :=
 if (cx g es W.d).2.2≠0 then (2,{ W with e:=(cx g es W.d).2.2 }) else if (cx g es W.d).2.1=[] then (0,W) else (1,gf (cx g es W.d).2.1 { W with d:=ia (cx g es W.d).1 })
theorem Lm (k:Int) (W:Wk):(jz k W).u.length≤W.u.length+1:=by unfold jz;split<;>simp
def zB (g:List Sy) (es:List (List Li)) (W:Wk):Bool→ai
 | true=>[kr g es W 1,eJ (ints W.u),none]
 | false=>[kr g es W 2,none,eJ (ints W.u)]
theorem Yl0 (g:List Sy) (es:List (List Li)) (W:Wk) (fh:rf es W.d) (hn:(cx g es W.d).2.2=0→lE (cx g es W.d).1) (hu:W.u.length+(cx g es W.d).2.1.length<1000000) :
  aq Tryz.prog (.fn 31 [.ptr 0 0] []) [] (o8 g es W 0) (zA g es (ru (jC g es W))):=by
 refine aq.l6 (rs:=[.tmp 2]) (m:=48) Tryz.func31 rfl rfl rfl rfl rfl ?_
 rw [show (o8 g es W 0).length=2 from rfl,z_]
 have hN:=ZP g es W.d fh
 obtain ⟨Z,hZ⟩:∃ Z,jC g es W=Z:=⟨_,rfl⟩
 have xV:=hZ
 unfold jC at xV
 rw [hZ]
 generalize cx g es W.d=z at *
 obtain ⟨z1,us,ze⟩:=z
 simp only at xV hN hn hu
 refine aK.go 1000 ?_
 simp only [go_sem]
 refine aK.draw [] 2 2 mixed rfl rfl (by decide) ?_
 simp only [go_sem,dA]
 refine nQ hN (cH _ _ _) ⟨dF _,eZ _,ct _,trivial⟩ ?_
 simp only [go_sem]
 refine aK.go 1000 ?_
 by_cases h0:ze=0
 case neg =>
  rw [if_pos h0] at xV
  simp only [go_sem,h0]
  refine xl 0 { W with e:=ze } ⟨by rw [← xV],by rw [← xV], .inl rfl⟩ trivial (fx _)
 subst h0
 rw [if_neg (by simp)] at xV
 by_cases h1:us=[]
 ·subst h1
  rw [if_pos rfl] at xV
  simp only [go_sem,kV,aR]
  refine xl 0 W ⟨by rw [← xV],by rw [← xV], .inl rfl⟩ trivial (fx _)
 rw [if_neg h1] at xV
 have dX:¬ (us.length:Int)=0:=by
  intro e;exact h1 (aY (by omega))
 have hT:=Ug z1 (hn rfl)
 simp only [go_sem,kV,dX]
 refine aq.bU [] hT (cH _ _ _) ⟨ct _,trivial⟩ ?_
 rw [jd];simp only [ite_self]
 refine aK.go 1000 ?_
 simp only [go_sem,kV]
 have wb:us.length<1000000:=by omega
 refine aK.gS (ι:={q:Nat×Wk×Bool // q.1≤us.length∧(1,gf (us.drop q.1) q.2.1)=Z∧q.2.1.u.length≤W.u.length+q.1}) 1000 (fun q=>fD 49 [(0, .ptr 0 0),(2, .int .i64 0),(39, .ps 1 (ints us)),(40, .int .i64 us.length),(41, .int .i64 q.1.1)])
  (fun q=>zB g es q.1.2.1 q.1.2.2) (fun q=>us.length - q.1.1) ⟨(0,{ W with d:=ia z1 },true),av _,xV,ah _⟩ [] ?_ (fun q=>by show 2≤(zB g es q.1.2.1 q.1.2.2).length;cases q.1.2.2<;>simp [zB]) ?_
 ·refine iF rfl ?_
  unfold zB kr
  simp only [go_sem,eZ,dp,sF,dF,ct,cz (eZ _),cz (dp _),cz (dF _),cz (ct _)]
 ·rintro ⟨⟨i,X,b⟩,hi,aO,hX⟩
  simp only at hi aO hX
  by_cases bD:(i:Int)<us.length
  ·have aZ:i<us.length:=by omega
   have hw:IntKind.i64.wrap ((i:Int)+1)=((i+1:Nat):Int):=by rw [ep (by omega)];omega
   rw [ak aZ,gf] at aO
   have g1:=wH aZ
   generalize us[i]=k at *
   have hU:=Py g es X k (by omega)
   have hUl:=Lm k X
   simp only [go_sem,bD,kV,g1]
   refine ⟨by omega,?_⟩
   have iu:(i+1≤us.length∧(1,gf (us.drop (i+1)) (jz k X))=Z∧(jz k X).u.length≤W.u.length+(i+1)):=⟨by omega,aO,by omega⟩
   cases b
   ·refine Hh (g:=g) (es:=es) (W:=X) (f:=.fn 69 [] []) (args:=[.ptr 0 0, .int .i64 k]) 0 2 (by decide) rfl rfl ⟨trivial,trivial⟩ rfl ⟨ek,trivial,trivial⟩ rfl hU (fun r m W' h=>by rw [h.1];trivial) ?_
    rintro r m W' ⟨rfl,rfl,hm⟩
    generalize jz k X=X' at *
    rcases hm with rfl | rfl
    ·show aK _ _ _ _ _ ⟨_,[kr g es X' 2,none,eJ (ints X'.u)]⟩
     refine aK.go 1000 ?_
     simp only [go_sem,hw]
     refine ⟨⟨(i+1,X',false),iu⟩,[],iF rfl ?_,by simp only;omega⟩
     unfold zB kr
     simp only [go_sem,eZ,dp,sF,dF,ct,cz (eZ _),cz (dp _),cz (dF _),cz (ct _)]
    ·show aK _ _ _ _ _ ⟨_,[kr g es X' 4,none,none,none,eJ (ints X'.u)]⟩
     refine aK.go 1000 ?_
     simp only [go_sem,hw]
     refine ⟨⟨(i+1,X',false),iu⟩,[(2,4),(4,2)],iF rfl ?_,by simp only;omega⟩
     unfold zB kr
     simp only [go_sem,eZ,dp,sF,dF,ct,cz (eZ _),cz (dp _),cz (dF _),cz (ct _)]
   ·refine Hh (g:=g) (es:=es) (W:=X) (f:=.fn 69 [] []) (args:=[.ptr 0 0, .int .i64 k]) 0 1 (by decide) rfl rfl ⟨trivial,trivial⟩ rfl ⟨ek,trivial,trivial⟩ rfl hU (fun r m W' h=>by rw [h.1];trivial) ?_
    rintro r m W' ⟨rfl,rfl,hm⟩
    generalize jz k X=X' at *
    rcases hm with rfl | rfl
    ·show aK _ _ _ _ _ ⟨_,[kr g es X' 1,eJ (ints X'.u),none]⟩
     refine aK.go 1000 ?_
     simp only [go_sem,hw]
     refine ⟨⟨(i+1,X',true),iu⟩,[],iF rfl ?_,by simp only;omega⟩
     unfold zB kr
     simp only [go_sem,eZ,dp,sF,dF,ct,cz (eZ _),cz (dp _),cz (dF _),cz (ct _)]
    ·show aK _ _ _ _ _ ⟨_,[kr g es X' 4,none,none,none,eJ (ints X'.u)]⟩
     refine aK.go 1000 ?_
     simp only [go_sem,hw]
     refine ⟨⟨(i+1,X',false),iu⟩,[(2,4),(4,2)],iF rfl ?_,by simp only;omega⟩
     unfold zB kr
     simp only [go_sem,eZ,dp,sF,dF,ct,cz (eZ _),cz (dp _),cz (dF _),cz (ct _)]
  ·have dR:i=us.length:=by omega
   subst dR
   rw [aV,gf] at aO
   simp only [go_sem,bD]
   refine aK.go 1000 ?_
   simp only [go_sem]
   cases b
   ·exact xl 1 X ⟨by rw [← aO],by rw [← aO], .inr ⟨by rw [← aO], .inl rfl⟩⟩ trivial (by simp [o8,zB,ig,List.replicate])
   ·exact xl 0 X ⟨by rw [← aO],by rw [← aO], .inl rfl⟩ trivial (by simp [o8,zB,ig,List.replicate])
end Go.Proofs
namespace Go.Proofs
open Go Go.cV
def dB:List (Wk→Int×Wk)→Wk→Int×Wk
 | [],W=>(0,W)
 | F :: l,W=>if (F W).1=0 then dB l W else F W
def cQ (g:List Sy) (es:List (List Li)):List (Wk→Int×Wk):=[gO,jC g es,lO es,jk es]
def iY (g:List Sy) (es:List (List Li)):Nat→Wk→Wk
 | 0,W=>W
 | n+1,W=>if (dB (cQ g es) W).1=1 then iY g es n (dB (cQ g es) W).2 else (dB (cQ g es) W).2
def qu (c:List Li):Wk:=⟨ia c,[],0, -1,0⟩
structure Si where
 d:List Li
 u:List Int
 gone:Int
 sy:Int
def Si.aN (s:Si):ae:=.agg [.ps 5 (lits s.d), .ps 1 (ints s.u), .int .i64 s.gone, .int .i64 s.sy]
def qH (W:Wk):Si×Int:=if W.e≠0 then (⟨[],[],0,0⟩,W.e) else if (kJ W.d).2≠0 then (⟨[],[],0,0⟩,(kJ W.d).2) else (⟨(kJ W.d).1,W.u,W.gone,W.sy⟩,0)
def gF (g:List Sy) (es:List (List Li)) (c:List Li):Si×Int:=if cB g (c :: es)≠0 then (⟨[],[],0,0⟩,cB g (c :: es)) else qH (iY g es 70 (qu c))
def mB (a b:Prop) (z:Int×Wk) (W:Wk):Prop:=(z.1=0∧z.2=W)∨(a∧z.1=1)∨(b∧z.1=2)
theorem Y3 (W:Wk):mB False True (gO W) W:=by
 unfold gO mB;split
 ·exact .inr (.inr ⟨trivial,rfl⟩)
 ·exact .inl ⟨rfl,rfl⟩
theorem Ykz (g:List Sy) (es:List (List Li)) (W:Wk):mB True True (jC g es W) W:=by
 unfold jC mB;split
 ·exact .inr (.inr ⟨trivial,rfl⟩)
 ·split
  ·exact .inl ⟨rfl,rfl⟩
  ·exact .inr (.inl ⟨trivial,rfl⟩)
theorem Yqt (es:List (List Li)) (W:Wk):mB True False (lO es W) W:=by
 unfold lO mB;split
 ·exact .inr (.inl ⟨trivial,rfl⟩)
 ·exact .inl ⟨rfl,rfl⟩
theorem Z8 (es:List (List Li)) (W:Wk):mB False True (jk es W) W:=by
 unfold jk mB;split
 ·exact .inr (.inr ⟨trivial,rfl⟩)
 ·exact .inl ⟨rfl,rfl⟩
def rC (o:Option bE) (g:List Sy) (es:List (List Li)) (W:Wk):ai:=[o,kr g es W 3,some (.row [.fn 30 [.ptr 1 0] [], .fn 31 [.ptr 1 0] [], .fn 32 [.ptr 1 0] [], .fn 33 [.ptr 1 0] []] 0),eJ (ints W.u)]
theorem IB {o:Option bE} {g:List Sy} {es:List (List Li)} {W:Wk} {z:Int×Wk} {f:FuncId} {K:ae→ai→Prop} (h:aq Tryz.prog (.fn f [.ptr 0 0] []) [] (o8 g es W 0) (zA g es (ru z)))
  (h0:K (.int .i64 z.1) (rC o g es z.2))
  (h1:z.1=1→K (.int .i64 z.1) [o,kr g es z.2 4,some (.row [.fn 30 [.ptr 1 0] [], .fn 31 [.ptr 1 0] [], .fn 32 [.ptr 1 0] [], .fn 33 [.ptr 1 0] []] 0),none,eJ (ints z.2.u)])
  (h4:z.1=1→K (.int .i64 z.1) [o,kr g es z.2 7,some (.row [.fn 30 [.ptr 1 0] [], .fn 31 [.ptr 1 0] [], .fn 32 [.ptr 1 0] [], .fn 33 [.ptr 1 0] []] 0),none,none,none,none,eJ (ints z.2.u)]) :
  aq Tryz.prog (.fn f [.ptr 1 0] []) [] (rC o g es W) K:=by
 refine Hh (g:=g) (es:=es) (W:=W) (f:=.fn f [.ptr 0 0] []) (args:=[]) 1 3 (by decide) rfl rfl ⟨⟨ek,trivial⟩,trivial⟩ rfl trivial rfl h (fun r m W' h=>by rw [h.1];trivial) ?_
 rintro r m W' ⟨rfl,rfl,rfl | ⟨h5,rfl | rfl⟩⟩
 ·exact h0
 ·exact h1 h5
 ·exact h4 h5
theorem XU (es:List (List Li)) (hl:es.length<1000000) {o:Option bE} {K:ae→ai→Prop} (h1:es=[]→K .aU [o]) (h2:es=[]→K (.os 2 0 0 1) [o,none,some (.row [] 0)]) (h3:es≠[]→K (.os 2 0 es.length 1) [o,none,some (.row (cP es) 0)]) :
  aq Tryz.prog (.fn 27 [] []) [.ps 1 (cP es)] [o] K:=by
 have vn:(es=[]∨es≠[]):=by cases es<;>simp
 rcases vn with rfl | dX
 ·refine aq.l7 (Z:=[]) (f:=.fn 27 [] []) (args:=[.ps 1 []]) (fun b=>b) (fun b b' h=>by simp at h) (fun b h=>by simp at h) (fun b h=>by simp at h) ⟨trivial,trivial⟩ rfl ⟨trivial,trivial⟩ rfl trivial (bS.v Qp) ?_
  rintro r Z' (⟨rfl,rfl⟩ | ⟨rfl,rfl⟩)
  ·exact ⟨ah _,trivial,trivial,h1 rfl⟩
  ·exact ⟨av _,by simp [go_sem],jc,h2 rfl⟩
 ·refine aq.sT [] (Rt es dX (by omega)) (cH _ _ _) ⟨eZ _,trivial⟩ ?_
  rw [jd]
  simp only [zV,zW,z7,xk,z8,up,cz (eZ _)]
  exact h3 dX
theorem LV (es:List (List Li)) (c:List Li) (hl:es.length<1000000) {o:Option bE} {K:ae→ai→Prop} :
  (es=[]→K (.ps 1 (cP (c :: es))) [o,none]→aq Tryz.prog (.fn 26 [] []) [.aU, .int .i64 0, .os 1 0 1 1] [o,some (.row [.ps 5 (lits c)] 0)] K) ∧
  (es=[]→K (.ps 1 (cP (c :: es))) [o,none,none,none]→aq Tryz.prog (.fn 26 [] []) [.os 2 0 0 1, .int .i64 0, .os 3 0 1 1] [o,none,some (.row [] 0),some (.row [.ps 5 (lits c)] 0)] K) ∧
  (es≠[]→K (.ps 1 (cP (c :: es))) [o,none,none,none]→aq Tryz.prog (.fn 26 [] []) [.os 2 0 es.length 1, .int .i64 0, .os 3 0 1 1] [o,none,some (.row (cP es) 0),some (.row [.ps 5 (lits c)] 0)] K):=by
 have Vd:∀ b,b<3→b=0∨b=1∨b=2:=fun b hb=>by omega
 have lc:=ct (n:=0) c
 have le:=eZ (n:=0) es
 have lr:=eZ (n:=0) (c :: es)
 refine ⟨fun h hk=>?_,fun h hk=>?_,fun h hk=>?_⟩
 ·subst h
  refine aq.l7 (Z:=[some (.row [.ps 5 (lits c)] 0)]) (f:=.fn 26 [] []) (args:=[.aU, .int .i64 0, .os 0 0 1 1]) (fun b=>b+1) (fun b b' h1 h2 e=>by omega) (fun b h=>by simp at h ⊢;omega) (fun b h=>?_) ⟨trivial,trivial⟩ rfl ⟨trivial,trivial,Nat.one_pos,trivial⟩ rfl ?_ (bS.v (P_ c)) ?_
  ·obtain rfl:b=0:=by simp at h;exact h
   exact ⟨_,rfl,by simp [go_sem,cz lc]⟩
  ·simp [go_sem,ct]
  rintro r Z' ⟨rfl,rfl⟩
  exact ⟨ah _,by simp [go_sem],eZ _,by rw [zT (show ae.low 0 (.ps 1 (cP [c])) from lr)];exact hk⟩
 ·subst h
  refine aq.l7 (Z:=[none,some (.row [] 0),some (.row [.ps 5 (lits c)] 0)]) (f:=.fn 26 [] []) (args:=[.os 1 0 0 1, .int .i64 0, .os 2 0 1 1]) (fun b=>b+1) (fun b b' h1 h2 e=>by omega) (fun b h=>by simp at h ⊢;omega) (fun b h=>?_) ⟨trivial,trivial⟩ rfl ⟨(show (1:Nat)<3 by decide),trivial,(show (2:Nat)<3 by decide),trivial⟩ rfl ?_ (bS.v (P9 c)) ?_
  ·rcases Vd b h with rfl | rfl | rfl<;>exact ⟨_,rfl,by simp [go_sem,cz lc]⟩
  ·simp [go_sem,ct]
  rintro r Z' ⟨rfl,rfl⟩
  exact ⟨ah _,by simp [go_sem],eZ _,by rw [zT (show ae.low 0 (.ps 1 (cP [c])) from lr)];exact hk⟩
 ·refine aq.l7 (Z:=[none,some (.row (cP es) 0),some (.row [.ps 5 (lits c)] 0)]) (f:=.fn 26 [] []) (args:=[.os 1 0 es.length 1, .int .i64 0, .os 2 0 1 1]) (fun b=>b+1) (fun b b' h1 h2 e=>by omega) (fun b h=>by simp at h ⊢;omega) (fun b h=>?_) ⟨trivial,trivial⟩ rfl ⟨(show (1:Nat)<3 by decide),trivial,(show (2:Nat)<3 by decide),trivial⟩ rfl ?_ (bS.v (QA es c h hl)) ?_
  ·rcases Vd b ‹_› with rfl | rfl | rfl<;>exact ⟨_,rfl,by simp [go_sem,cz lc,cz le]⟩
  ·simp [go_sem,ct,eZ]
  rintro r Z' ⟨rfl,rfl⟩
  exact ⟨ah _,by simp [go_sem],eZ _,by rw [zT (show ae.low 0 (.ps 1 (cP (c :: es))) from lr)];exact hk⟩
end Go.Proofs
namespace Go.Proofs
open Go Go.cV
attribute [local go_sem] Nat.reduceAdd Nat.reduceSub Nat.reduceMul Nat.reduceLeDiff Nat.reduceEqDiff Nat.reduceBEq Nat.reduceLT Nat.le_refl Int.natCast_zero Nat.sub_zero List.length_map Int.toNat_natCast Int.natCast_one Int.reduceEq Int.reduceLT Int.reduceLE Int.reduceNe Int.sub_zero Int.zero_add Int.toNat_one
theorem H3 (b sz:Nat) (l:List ae):(ja b sz l).cells=[ja b sz l]:=by cases l<;>rfl
theorem U0:((2:Nat):Int)=2:=rfl
theorem U1:((3:Nat):Int)=3:=rfl
theorem IX:((4:Nat):Int)=4:=rfl
theorem UY:Int.toNat 2=2:=rfl
theorem UZ:Int.toNat 3=3:=rfl
theorem HG {Fs:List (Wk→Int×Wk)} {W:Wk} {k:Nat} (hk:k<Fs.length) (h:(Fs[k] W).1=0):dB (Fs.drop k) W=dB (Fs.drop (k+1)) W:=by
 rw [ak hk,dB,if_pos h]
theorem HP {Fs:List (Wk→Int×Wk)} {W:Wk} {k:Nat} (hk:k<Fs.length) (h:¬ (Fs[k] W).1=0):dB (Fs.drop k) W=Fs[k] W:=by
 rw [ak hk,dB,if_neg h]
set_option maxHeartbeats 2000000 in
theorem Yw1 (g:List Sy) (es:List (List Li)) (c:List Li) (I:Nat→Wk→Prop) (oB:∀ x∈c :: es,ow x) (hc:cB g (c :: es)=0→lE c) (hl:es.length<1000000) (Gd:cB g (c :: es)=0→∀ x∈es,lE x) (I3:cB g (c :: es)=0→I 70 (qu c))
  (hI:∀ n W,I n W→(∃ m,n=m+1)∧lE W.d∧rf es W.d∧((cx g es W.d).2.2=0→lE (cx g es W.d).1)∧W.u.length+(cx g es W.d).2.1.length<1000000)
  (nV:∀ n W,I (n+1) W→(dB (cQ g es) W).1=1→I n (dB (cQ g es) W).2)
  (fZ:∀ n W,I n W→(dB (cQ g es) W).1≠1→(dB (cQ g es) W).2.e=0→lE (dB (cQ g es) W).2.d∧Tm.bG (cT (dB (cQ g es) W).2.d)<99999999) :
  aJ Tryz.prog 9 [.ps 4 (syms g), .ps 1 (cP es), .ps 5 (lits c)] (.dy [(gF g es c).1.aN, .int .i64 (gF g es c).2]):=by
 refine aJ.begin (rs:=[.cell 6 28, .tmp 7]) (m:=96) 1000 Tryz.func9 rfl rfl rfl (by decide) ⟨⟨ct _,dp _,trivial,trivial,trivial⟩,trivial,trivial⟩ ?_
 obtain ⟨Z,hZ⟩:∃ Z,gF g es c=Z:=⟨_,rfl⟩
 rw [hZ]
 unfold gF at hZ
 simp only [go_sem]
 refine XU es hl (fun he=>?_) (fun he=>?_) (fun he=>?_)
 case' refine_1 =>
  refine aK.go 1000 ?_
  simp only [go_sem]
  refine (LV es c hl).1 he ?_
  refine aK.go 1000 ?_
  simp only [go_sem,mr]
 case' refine_2 =>
  refine aK.go 1000 ?_
  simp only [go_sem]
  refine (LV es c hl).2.1 he ?_
  refine aK.go 1000 ?_
  simp only [go_sem,mr]
 case' refine_3 =>
  refine aK.go 1000 ?_
  simp only [go_sem]
  refine (LV es c hl).2.2 he ?_
  refine aK.go 1000 ?_
  simp only [go_sem,mr]
 all_goals
  obtain ⟨L,hL⟩:∃ L,c :: es=L:=⟨_,rfl⟩
  have hlen:es.length+1=L.length:=by rw [← hL];rfl
  have ju:L.length<2000000:=by omega
  rw [hL,hlen]
  rw [hL] at oB hZ I3 Gd hc
  clear he
  refine aK.c9 (ι:={i:Nat // i≤L.length∧cB g (L.drop i)=cB g L}) 1000 (fun i=>fD 99 [(0, .ps 4 (syms g)),(1, .ps 1 (cP es)),(2, .ps 5 (lits c)),(6, .ptr 0 0),(7, .int .i64 0),(21, .ps 1 (cP L)),(22, .int .i64 L.length),(23, .int .i64 i.1)])
   (fun _=>[some (.var [.aU, .aU, .int .i64 0, .int .i64 0])]) (fun i=>L.length - i.1) ⟨0,by simp⟩ ?_ (fun _=>av _) ?_
  ·simp only [go_sem,dF,eZ,ct]
  ·rintro ⟨i,hi,aO⟩
   by_cases bD:(i:Int)<L.length
   ·have aZ:i<L.length:=by omega
    have hd:cB g (L.drop i)=if a_ g L[i]≠0 then a_ g L[i] else cB g (L.drop (i+1)):=by
     rw [ak aZ];rfl
    simp only [go_sem,bD,mr,y_ aZ]
    (repeat ((with_reducible refine And.intro ?_ ?_); ·omega))
    refine aq.bU [] (E5 g L[i] (oB _ (aF aZ))) (cH _ _ _) (by simp [go_sem,dF,ct]) ?_;simp only [bL,bZ,bX,if_true];refine aK.go 1000 ?_
    by_cases c0:a_ g L[i]=0
    ·simp only [go_sem,c0]
     refine ⟨⟨i+1,aZ,by rw [← aO,hd,if_neg (by simp [c0])]⟩,?_,by simp only;omega⟩
     simp only [go_sem,dF,eZ,ct]
     rw [ep (by omega)];rfl
    ·simp only [go_sem,c0]
     refine aK.go 1000 ?_
     rw [hd,if_pos c0] at aO
     rw [if_pos (by rw [← aO];exact c0)] at hZ
     subst hZ
     simp only [go_sem,aO,Si.aN]
     exact ⟨rfl,rfl⟩
   ·have dR:i=L.length:=by omega
    subst dR
    rw [aV,cB] at aO
    rw [if_neg (by rw [← aO];simp)] at hZ
    have F6:=Gd aO.symm
    have I3:=I3 aO.symm
    have hT:=Ug c (hc aO.symm)
    simp only [go_sem,bD]
    refine aK.go 1000 ?_
    simp only [go_sem]
    refine aq.bU [] hT (cH _ _ _) ⟨ct _,trivial⟩ ?_
    rw [jd];simp only [ite_self]
    refine aK.go 1000 ?_
    simp only [go_sem]
    refine ⟨rfl,rfl,rfl,rfl,?_⟩
    refine aK.gS (ι:={q:Nat×Wk // I q.1 q.2∧qH (iY g es q.1 q.2)=Z}) 1000 (fun _=>fD 99 [(6, .ptr 0 0),(7, .int .i64 0),(11, .ptr 1 0),(12, .os 2 0 4 1)])
     (fun q=>rC (some (.var [.aU, .aU, .int .i64 0, .int .i64 0])) g es q.1.2) (fun q=>q.1.1) ⟨(70,qu c),I3,hZ⟩ [] ?_ (fun _=>av _) ?_
    ·refine iF rfl ?_
     unfold rC kr qu
     simp only [go_sem,eZ,dp,sF,dF,ct,cz (eZ _),cz (dp _),cz (dF _),cz (ct _),show ints []=[] from rfl,tK,td]
    ·rintro ⟨⟨n,W⟩,xq,hF⟩
     simp only at xq hF
     obtain ⟨⟨n,rfl⟩,k1,k2,k3,k4⟩:=hI n W xq
     rw [iY] at hF
     unfold rC
     simp only [go_sem]
     refine aK.c9 (ι:={k:Nat // k≤4∧dB ((cQ g es).drop k) W=dB (cQ g es) W}) 1000 (fun k=>fD 99 [(6, .ptr 0 0),(7, .int .i64 0),(11, .ptr 1 0),(12, .os 2 0 4 1),(50, .os 2 0 4 1),(51, .int .i64 4),(52, .int .i64 k.1)])
      (fun _=>rC (some (.var [.aU, .aU, .int .i64 0, .int .i64 0])) g es W) (fun k=>4 - k.1) ⟨0,av _,rfl⟩ ?_ (fun _=>av _) ?_
     ·unfold rC kr
      simp only [go_sem,eZ,dp,sF,dF,ct]
      rfl
     rintro ⟨k,hk,aO⟩
     have eA:k=0∨k=1∨k=2∨k=3∨k=4:=by omega
     rcases eA with rfl | rfl | rfl | rfl | rfl
     ·have fP:=YG g es W k1
      have sM:=Y3 W
      have nI:(gO W).1=0→dB ((cQ g es).drop 1) W=dB (cQ g es) W:=fun h=>by rw [← aO];exact (HG (Fs:=cQ g es) (k:=0) (show 0<4 by decide) h).symm
      have sg:¬ (gO W).1=0→dB (cQ g es) W=gO W:=fun h=>by rw [← aO];exact HP (Fs:=cQ g es) (k:=0) (show 0<4 by decide) h
      generalize gO W=z at *
      obtain ⟨z1,z2⟩:=z
      unfold mB at sM
      simp only [false_and,true_and,false_or,or_false] at sM nI sg
      unfold rC
      simp only [go_sem,bB,bg]
      refine ⟨by omega,IB (o:=(some (.var [.aU, .aU, .int .i64 0, .int .i64 0]))) (g:=g) (es:=es) (W:=W) (z:=(z1,z2)) fP ?_ (fun h=>?_) (fun h=>?_)⟩
      ·rcases sM with ⟨rfl,rfl⟩ | rfl
       ·unfold rC
        refine aK.go 1000 ?_
        simp only [go_sem]
        refine ⟨⟨1,by omega,nI rfl⟩,?_,by simp only;omega⟩
        unfold kr
        simp only [go_sem,eZ,dp,sF,dF,ct,cz (eZ _),cz (dp _),cz (dF _),cz (ct _)]
        all_goals rfl
       ·have hsc:=sg (by decide)
        have oP:=fZ (n+1) W xq (by rw [hsc];simp)
        rw [hsc] at oP hF
        rw [if_neg (by simp)] at hF
        simp only at oP hF
        unfold rC
        refine aK.go 1000 ?_
        simp only [go_sem]
        refine aK.go 1000 ?_
        simp only [go_sem]
        refine aK.go 1000 ?_
        unfold qH at hF
        by_cases he:z2.e=0
        ·rw [if_neg (by simp [he])] at hF
         have fZ:=oP he
         have CP:=Ig z2.d fZ.1 fZ.2
         unfold kr
         simp only [go_sem,he]
         refine aq.bU [] CP (cH _ _ _) ⟨ct _,trivial⟩ ?_
         rw [jd];simp only [ite_self]
         refine aK.go 1000 ?_
         by_cases hn:(kJ z2.d).2=0
         ·rw [if_neg (by simp [hn])] at hF
          simp only [go_sem,hn]
          refine aK.draw [.no, .no, .no, .no, .no, .no, .no, .no, .no, .no, .no, .no, .no, .no,⟨none,[0],[]⟩] 4 4 mixed rfl rfl (by decide) ?_
          simp only [go_sem,dA,H3,xH]
          refine aK.go 1000 ?_
          simp only [go_sem,xH]
          subst hF
          refine ⟨⟨vX _ _ _,?_,cH _ _ _⟩,rfl⟩
          rw [rN rfl rfl];trivial
         ·rw [if_pos hn] at hF
          subst hF
          simp only [go_sem,hn,Si.aN]
          exact ⟨rfl,rfl⟩
        ·rw [if_pos he] at hF
         subst hF
         unfold kr
         simp only [go_sem,he]
         refine aK.go 1000 ?_
         simp only [go_sem,he]
         refine aK.draw [.no,⟨none,[],[0]⟩,⟨none,[],[0]⟩,⟨none,[],[0]⟩,⟨none,[],[0]⟩,⟨none,[0],[]⟩] 4 4 mixed rfl rfl (by decide) ?_
         simp only [go_sem,dA]
         refine aK.go 1000 ?_
         simp only [go_sem,Si.aN]
         exact ⟨rfl,rfl⟩
      ·simp only at h
       subst h
       simp at sM
      ·simp only at h
       subst h
       simp at sM
     ·have fP:=Yl0 g es W k2 k3 k4
      have sM:=Ykz g es W
      have nI:(jC g es W).1=0→dB ((cQ g es).drop 2) W=dB (cQ g es) W:=fun h=>by rw [← aO];exact (HG (Fs:=cQ g es) (k:=1) (show 1<4 by decide) h).symm
      have sg:¬ (jC g es W).1=0→dB (cQ g es) W=jC g es W:=fun h=>by rw [← aO];exact HP (Fs:=cQ g es) (k:=1) (show 1<4 by decide) h
      generalize jC g es W=z at *
      obtain ⟨z1,z2⟩:=z
      unfold mB at sM
      simp only [false_and,true_and,false_or,or_false] at sM nI sg
      unfold rC
      simp only [go_sem,bB,bg]
      refine ⟨by omega,IB (o:=(some (.var [.aU, .aU, .int .i64 0, .int .i64 0]))) (g:=g) (es:=es) (W:=W) (z:=(z1,z2)) fP ?_ (fun h=>?_) (fun h=>?_)⟩
      ·rcases sM with ⟨rfl,rfl⟩ | rfl | rfl
       ·unfold rC
        refine aK.go 1000 ?_
        simp only [go_sem]
        refine ⟨⟨2,by omega,nI rfl⟩,?_,by simp only;omega⟩
        unfold kr
        simp only [go_sem,eZ,dp,sF,dF,ct,cz (eZ _),cz (dp _),cz (dF _),cz (ct _)]
        all_goals rfl
       ·have hsc:=sg (by decide)
        have uc:=nV n W xq (by rw [hsc])
        rw [hsc] at uc hF
        rw [if_pos rfl] at hF
        unfold rC
        refine aK.go 1000 ?_
        simp only [go_sem]
        refine ⟨⟨(n,z2),uc,hF⟩,[],iF rfl ?_,by simp only;omega⟩
        unfold kr
        simp only [go_sem,eZ,dp,sF,dF,ct,cz (eZ _),cz (dp _),cz (dF _),cz (ct _)]
       ·have hsc:=sg (by decide)
        have oP:=fZ (n+1) W xq (by rw [hsc];simp)
        rw [hsc] at oP hF
        rw [if_neg (by simp)] at hF
        simp only at oP hF
        unfold rC
        refine aK.go 1000 ?_
        simp only [go_sem]
        refine aK.go 1000 ?_
        simp only [go_sem]
        refine aK.go 1000 ?_
        unfold qH at hF
        by_cases he:z2.e=0
        ·rw [if_neg (by simp [he])] at hF
         have fZ:=oP he
         have CP:=Ig z2.d fZ.1 fZ.2
         unfold kr
         simp only [go_sem,he]
         refine aq.bU [] CP (cH _ _ _) ⟨ct _,trivial⟩ ?_
         rw [jd];simp only [ite_self]
         refine aK.go 1000 ?_
         by_cases hn:(kJ z2.d).2=0
         ·rw [if_neg (by simp [hn])] at hF
          simp only [go_sem,hn]
          refine aK.draw [.no, .no, .no, .no, .no, .no, .no, .no, .no, .no, .no, .no, .no, .no,⟨none,[0],[]⟩] 4 4 mixed rfl rfl (by decide) ?_
          simp only [go_sem,dA,H3,xH]
          refine aK.go 1000 ?_
          simp only [go_sem,xH]
          subst hF
          refine ⟨⟨vX _ _ _,?_,cH _ _ _⟩,rfl⟩
          rw [rN rfl rfl];trivial
         ·rw [if_pos hn] at hF
          subst hF
          simp only [go_sem,hn,Si.aN]
          exact ⟨rfl,rfl⟩
        ·rw [if_pos he] at hF
         subst hF
         unfold kr
         simp only [go_sem,he]
         refine aK.go 1000 ?_
         simp only [go_sem,he]
         refine aK.draw [.no,⟨none,[],[0]⟩,⟨none,[],[0]⟩,⟨none,[],[0]⟩,⟨none,[],[0]⟩,⟨none,[0],[]⟩] 4 4 mixed rfl rfl (by decide) ?_
         simp only [go_sem,dA]
         refine aK.go 1000 ?_
         simp only [go_sem,Si.aN]
         exact ⟨rfl,rfl⟩
      ·simp only at h
       subst h
       have hsc:=sg (by decide)
       have uc:=nV n W xq (by rw [hsc])
       rw [hsc] at uc hF
       rw [if_pos rfl] at hF
       refine aK.go 1000 ?_
       simp only [go_sem]
       refine ⟨⟨(n,z2),uc,hF⟩,[(3,4),(4,3)],iF rfl ?_,by simp only;omega⟩
       unfold kr
       simp only [go_sem,eZ,dp,sF,dF,ct,cz (eZ _),cz (dp _),cz (dF _),cz (ct _)]
      ·simp only at h
       subst h
       have hsc:=sg (by decide)
       have uc:=nV n W xq (by rw [hsc])
       rw [hsc] at uc hF
       rw [if_pos rfl] at hF
       refine aK.go 1000 ?_
       simp only [go_sem]
       refine ⟨⟨(n,z2),uc,hF⟩,[(3,7),(7,3)],iF rfl ?_,by simp only;omega⟩
       unfold kr
       simp only [go_sem,eZ,dp,sF,dF,ct,cz (eZ _),cz (dp _),cz (dF _),cz (ct _)]
     ·have fP:=Yrc g es W F6 hl k1 (by omega)
      have sM:=Yqt es W
      have nI:(lO es W).1=0→dB ((cQ g es).drop 3) W=dB (cQ g es) W:=fun h=>by rw [← aO];exact (HG (Fs:=cQ g es) (k:=2) (show 2<4 by decide) h).symm
      have sg:¬ (lO es W).1=0→dB (cQ g es) W=lO es W:=fun h=>by rw [← aO];exact HP (Fs:=cQ g es) (k:=2) (show 2<4 by decide) h
      generalize lO es W=z at *
      obtain ⟨z1,z2⟩:=z
      unfold mB at sM
      simp only [false_and,true_and,false_or,or_false] at sM nI sg
      unfold rC
      simp only [go_sem,bB,bg,U0,U1,IX,UY,UZ]
      refine IB (o:=(some (.var [.aU, .aU, .int .i64 0, .int .i64 0]))) (g:=g) (es:=es) (W:=W) (z:=(z1,z2)) fP ?_ (fun h=>?_) (fun h=>?_)
      ·rcases sM with ⟨rfl,rfl⟩ | rfl
       ·unfold rC
        refine aK.go 1000 ?_
        simp only [go_sem]
        refine ⟨⟨3,by omega,nI rfl⟩,?_,by simp only;omega⟩
        unfold kr
        simp only [go_sem,eZ,dp,sF,dF,ct,cz (eZ _),cz (dp _),cz (dF _),cz (ct _)]
        all_goals rfl
       ·have hsc:=sg (by decide)
        have uc:=nV n W xq (by rw [hsc])
        rw [hsc] at uc hF
        rw [if_pos rfl] at hF
        unfold rC
        refine aK.go 1000 ?_
        simp only [go_sem]
        refine ⟨⟨(n,z2),uc,hF⟩,[],iF rfl ?_,by simp only;omega⟩
        unfold kr
        simp only [go_sem,eZ,dp,sF,dF,ct,cz (eZ _),cz (dp _),cz (dF _),cz (ct _)]
      ·simp only at h
       subst h
       have hsc:=sg (by decide)
       have uc:=nV n W xq (by rw [hsc])
       rw [hsc] at uc hF
       rw [if_pos rfl] at hF
       refine aK.go 1000 ?_
       simp only [go_sem]
       refine ⟨⟨(n,z2),uc,hF⟩,[(3,4),(4,3)],iF rfl ?_,by simp only;omega⟩
       unfold kr
       simp only [go_sem,eZ,dp,sF,dF,ct,cz (eZ _),cz (dp _),cz (dF _),cz (ct _)]
      ·simp only at h
       subst h
       have hsc:=sg (by decide)
       have uc:=nV n W xq (by rw [hsc])
       rw [hsc] at uc hF
       rw [if_pos rfl] at hF
       refine aK.go 1000 ?_
       simp only [go_sem]
       refine ⟨⟨(n,z2),uc,hF⟩,[(3,7),(7,3)],iF rfl ?_,by simp only;omega⟩
       unfold kr
       simp only [go_sem,eZ,dp,sF,dF,ct,cz (eZ _),cz (dp _),cz (dF _),cz (ct _)]
     ·have fP:=ZZ g es W F6 hl k1
      have sM:=Z8 es W
      have nI:(jk es W).1=0→dB ((cQ g es).drop 4) W=dB (cQ g es) W:=fun h=>by rw [← aO];exact (HG (Fs:=cQ g es) (k:=3) (show 3<4 by decide) h).symm
      have sg:¬ (jk es W).1=0→dB (cQ g es) W=jk es W:=fun h=>by rw [← aO];exact HP (Fs:=cQ g es) (k:=3) (show 3<4 by decide) h
      generalize jk es W=z at *
      obtain ⟨z1,z2⟩:=z
      unfold mB at sM
      simp only [false_and,true_and,false_or,or_false] at sM nI sg
      unfold rC
      simp only [go_sem,bB,bg,U0,U1,IX,UY,UZ]
      refine IB (o:=(some (.var [.aU, .aU, .int .i64 0, .int .i64 0]))) (g:=g) (es:=es) (W:=W) (z:=(z1,z2)) fP ?_ (fun h=>?_) (fun h=>?_)
      ·rcases sM with ⟨rfl,rfl⟩ | rfl
       ·unfold rC
        refine aK.go 1000 ?_
        simp only [go_sem]
        refine ⟨⟨4,by omega,nI rfl⟩,?_,by simp only;omega⟩
        unfold kr
        simp only [go_sem,eZ,dp,sF,dF,ct,cz (eZ _),cz (dp _),cz (dF _),cz (ct _)]
        all_goals rfl
       ·have hsc:=sg (by decide)
        have oP:=fZ (n+1) W xq (by rw [hsc];simp)
        rw [hsc] at oP hF
        rw [if_neg (by simp)] at hF
        simp only at oP hF
        unfold rC
        refine aK.go 1000 ?_
        simp only [go_sem]
        refine aK.go 1000 ?_
        simp only [go_sem]
        refine aK.go 1000 ?_
        unfold qH at hF
        by_cases he:z2.e=0
        ·rw [if_neg (by simp [he])] at hF
         have fZ:=oP he
         have CP:=Ig z2.d fZ.1 fZ.2
         unfold kr
         simp only [go_sem,he]
         refine aq.bU [] CP (cH _ _ _) ⟨ct _,trivial⟩ ?_
         rw [jd];simp only [ite_self]
         refine aK.go 1000 ?_
         by_cases hn:(kJ z2.d).2=0
         ·rw [if_neg (by simp [hn])] at hF
          simp only [go_sem,hn]
          refine aK.draw [.no, .no, .no, .no, .no, .no, .no, .no, .no, .no, .no, .no, .no, .no,⟨none,[0],[]⟩] 4 4 mixed rfl rfl (by decide) ?_
          simp only [go_sem,dA,H3,xH]
          refine aK.go 1000 ?_
          simp only [go_sem,xH]
          subst hF
          refine ⟨⟨vX _ _ _,?_,cH _ _ _⟩,rfl⟩
          rw [rN rfl rfl];trivial
         ·rw [if_pos hn] at hF
          subst hF
          simp only [go_sem,hn,Si.aN]
          exact ⟨rfl,rfl⟩
        ·rw [if_pos he] at hF
         subst hF
         unfold kr
         simp only [go_sem,he]
         refine aK.go 1000 ?_
         simp only [go_sem,he]
         refine aK.draw [.no,⟨none,[],[0]⟩,⟨none,[],[0]⟩,⟨none,[],[0]⟩,⟨none,[],[0]⟩,⟨none,[0],[]⟩] 4 4 mixed rfl rfl (by decide) ?_
         simp only [go_sem,dA]
         refine aK.go 1000 ?_
         simp only [go_sem,Si.aN]
         exact ⟨rfl,rfl⟩
      ·simp only at h
       subst h
       simp at sM
      ·simp only at h
       subst h
       simp at sM
     ·have hsc:dB (cQ g es) W=(0,W):=aO.symm
      have oP:=fZ (n+1) W xq (by rw [hsc];simp)
      rw [hsc] at oP hF
      rw [if_neg (by simp)] at hF
      simp only at oP hF
      unfold qH at hF
      by_cases he:W.e=0
      ·rw [if_neg (by simp [he])] at hF
       have fZ:=oP he
       have CP:=Ig W.d fZ.1 fZ.2
       unfold rC kr
       simp only [go_sem,he,IX]
       refine aK.go 1000 ?_
       simp only [go_sem,he]
       refine aK.go 1000 ?_
       simp only [go_sem,he]
       refine aq.bU [] CP (cH _ _ _) ⟨ct _,trivial⟩ ?_
       rw [jd];simp only [ite_self]
       refine aK.go 1000 ?_
       by_cases hn:(kJ W.d).2=0
       ·rw [if_neg (by simp [hn])] at hF
        simp only [go_sem,hn]
        refine aK.draw [.no, .no, .no, .no, .no, .no, .no, .no, .no, .no, .no, .no, .no, .no,⟨none,[0],[]⟩] 4 4 mixed rfl rfl (by decide) ?_
        simp only [go_sem,dA,H3,xH]
        refine aK.go 1000 ?_
        simp only [go_sem,xH]
        subst hF
        refine ⟨⟨vX _ _ _,?_,cH _ _ _⟩,rfl⟩
        rw [rN rfl rfl];trivial
       ·rw [if_pos hn] at hF
        subst hF
        simp only [go_sem,hn,Si.aN]
        exact ⟨rfl,rfl⟩
      ·rw [if_pos he] at hF
       subst hF
       unfold rC kr
       simp only [go_sem,he,IX]
       refine aK.go 1000 ?_
       simp only [go_sem,he]
       refine aK.go 1000 ?_
       simp only [go_sem,he]
       refine aK.draw [.no,⟨none,[],[0]⟩,⟨none,[],[0]⟩,⟨none,[],[0]⟩,⟨none,[],[0]⟩,⟨none,[0],[]⟩] 4 4 mixed rfl rfl (by decide) ?_
       simp only [go_sem,dA]
       refine aK.go 1000 ?_
       simp only [go_sem,Si.aN]
       exact ⟨rfl,rfl⟩
end Go.Proofs
namespace Go.Proofs
open Go Go.cV
theorem Ztf {es:List (List Li)} {u:Un} (h:u∈cM es):fG u=false:=by
 unfold cM at h
 have:=(lZ.1 h).2
 simpa using this
theorem Zl {g:List Sy} {us:List Un} {c:List Li} (h0:(de g us c).2.2.2=0):(de g us c).1.length=c.length:=by
 unfold de kQ at h0 ⊢
 rcases EV (TT g c) us (cG c 0) with ⟨f1,_⟩ | ⟨k,hk,x,f1,f2,_⟩
 ·rw [f1]
 ·rw [f1] at h0 ⊢
  simp only at h0 ⊢
  split at h0
  ·split
   ·unfold kL
    split<;>simp
   ·rename_i h1 h2;exact absurd h1 h2
  ·rename_i h1
   split
   ·rename_i h2;exact absurd h2 h1
   ·exact absurd h0 (by assumption)
theorem R4 {g:List Sy} {us:List Un}:∀ (n:Nat) (c:List Li) (u:List Int),(dM (de g us) n c u).2.2=0→(dM (de g us) n c u).1.length=c.length
 | 0,_,_,h=>by rw [dM] at h;exact absurd h (by decide)
 | n+1,c,u,h=>by
  rw [dM] at h ⊢
  split
  ·rename_i h1;rw [if_pos h1] at h;exact absurd h h1
  ·rename_i h1
   rw [if_neg h1] at h
   split
   ·rfl
   ·rename_i h2
    rw [if_neg h2] at h
    split
    ·rename_i h3;rw [if_pos h3] at h;exact absurd h (by simp)
    ·rename_i h3
     rw [if_neg h3] at h
     rw [R4 n _ _ h,Zl (by simpa using h1)]
theorem Xs {g:List Sy} {es:List (List Li)} {c:List Li} (h:(cx g es c).2.2=0):(cx g es c).1.length=c.length:=by
 unfold cx fQ at h ⊢
 split
 ·rename_i h1;rw [if_pos h1] at h;exact absurd h h1
 ·rename_i h1
  rw [if_neg h1] at h
  exact R4 _ _ _ h
theorem Ry (g:List Sy) (es:List (List Li)) (c:List Li):(cx g es c).2.1.length≤200:=by
 unfold cx fQ
 split
 ·exact av _
 ·exact TQ _ _ _ _ (av _)
theorem Qw {g:List Sy} {c:List Li} {es:List (List Li)} (hc:a_ g c=0):cB g (c :: es)=cB g es:=by
 rw [cB,if_neg (fun k=>k hc)]
theorem LM {g:List Sy} {es:List (List Li)} {c d:List Li} (h:rf es c) (hw:cB g (c :: es)=0) (hd:kN g d):rf es d∧cB g (d :: es)=0:=by
 have h1:=B_ hw c (by simp)
 refine ⟨⟨h.1,fun x hx=>?_⟩,by rw [Qw hd.1,← Qw h1];exact hw⟩
 rcases aP.1 hx with rfl | hx
 ·refine ⟨fun i hi=>?_,hd.2⟩
  obtain ⟨a1,a2⟩:=uP hd (aF hi)
  have b1:=(qc a1).2
  have b2:=(qc a2).2
  exact ⟨by omega,by omega⟩
 ·exact h.2 x (by simp [hx])
theorem Fy {g:List Sy} {d:List Li} (hd:kN g d):lE d:=by
 obtain ⟨_,h2,_⟩:=zG hd.1
 refine ⟨fun l hl=>?_,by omega⟩
 obtain ⟨a1,a2⟩:=uP hd hl
 have b1:=qc a1
 have b2:=qc a2
 exact ⟨⟨b1.1,by have:=b1.2;omega⟩,b2.1,by have:=b2.2;omega⟩
theorem T5 {m:Nat}:∀ {c:List Li},(∀ l∈c,l.l.size≤m∧l.r.size≤m)→Tm.bG (cT c)≤c.length*(2*m)
 | [],_=>by simp [cT,Tm.bG]
 | l :: c,h=>by
  obtain ⟨a1,a2⟩:=h l (by simp)
  have ih:=T5 (c:=c) fun x hx=>h x (by simp [hx])
  rw [show cT (l :: c)=l.l :: l.r :: cT c from rfl,Tm.bG,Tm.bG,au,Nat.succ_mul]
  omega
theorem Yjl {g:List Sy} {d:List Li} (hd:kN g d):Tm.bG (cT d)<99999999:=by
 obtain ⟨_,h2,_⟩:=zG hd.1
 have h:=T5 (m:=400) (c:=d) fun l hl=>by
  obtain ⟨a1,a2⟩:=uP hd hl
  exact ⟨(qc a1).2,(qc a2).2⟩
 have:d.length*(2*400)≤32*(2*400):=aW _ h2
 omega
theorem Jz {g:List Sy} {es:List (List Li)} {c:List Li} (h:rf es c) (hw:cB g (c :: es)=0):∀ x∈es,kN g x:=fun x hx=>⟨B_ hw x (by simp [hx]),(h.2 x (by simp [hx])).2⟩
noncomputable def G6 (g:List Sy) (es:List (List Li)) (W:Wk):Nat:=2*W.d.length + @ite _ (calm g (cM es) W.d) (Classical.propDecidable _) 0 1
structure IW (g:List Sy) (es:List (List Li)) (n:Nat) (W:Wk):Prop where
 rt:kN g W.d
 e:W.e=0
 gone:W.gone=0
 sy:W.sy = -1
 tidy:pg W.d
 nodup:W.u.Nodup
 rows:∀ k∈W.u,0≤k∧k<es.length
 len:W.u.length+201*n≤201*70
 mu:G6 g es W<n
theorem Ypg (g:List Sy) (es:List (List Li)) (W:Wk):dB (cQ g es) W=if (gO W).1≠0 then gO W else if (jC g es W).1≠0 then jC g es W else if (lO es W).1≠0 then lO es W else if (jk es W).1≠0 then jk es W else (0,W):=by
 simp only [cQ,dB,ite_not,ne_eq]
theorem DU (g:List Sy) (es:List (List Li)) (W:Wk) :
  (nk W.d=true∧dB (cQ g es) W=(2,{ W with gone:=1 })) ∨
  (nk W.d=false∧(cx g es W.d).2.2≠0∧dB (cQ g es) W=(2,{ W with e:=(cx g es W.d).2.2 })) ∨
  (nk W.d=false∧(cx g es W.d).2.2=0∧(cx g es W.d).2.1≠[]∧dB (cQ g es) W=(1,gf (cx g es W.d).2.1 { W with d:=ia (cx g es W.d).1 })) ∨
  (nk W.d=false∧(cx g es W.d).2.2=0∧(cx g es W.d).2.1=[]∧∃ x,kX 0 es W.d=some x∧dB (cQ g es) W=(1,jz (x.1:Int) { W with d:=W.d.eraseIdx x.2 })) ∨
  (nk W.d=false∧(cx g es W.d).2.2=0∧(cx g es W.d).2.1=[]∧kX 0 es W.d=none∧∃ k,nh 0 es W.d=some k∧dB (cQ g es) W=(2,{ W with gone:=2,sy:=(k:Int) })) ∨
  (nk W.d=false∧(cx g es W.d).2.2=0∧(cx g es W.d).2.1=[]∧kX 0 es W.d=none∧nh 0 es W.d=none∧dB (cQ g es) W=(0,W)):=by
 rw [Ypg]
 cases h1:nk W.d
 ·have e1:gO W=(0,W):=by unfold gO;rw [h1];rfl
  rw [e1,if_neg (fun k=>k rfl)]
  by_cases h2:(cx g es W.d).2.2=0
  ·by_cases h3:(cx g es W.d).2.1=[]
   ·have e2:jC g es W=(0,W):=by unfold jC;rw [if_neg (fun k=>k h2),if_pos h3]
    rw [e2,if_neg (fun k=>k rfl)]
    cases h4:kX 0 es W.d with
    | some x =>
     have e3:lO es W=(1,jz (x.1:Int) { W with d:=W.d.eraseIdx x.2 }):=by unfold lO;rw [h4]
     rw [e3,if_pos (by simp)]
     exact .inr (.inr (.inr (.inl ⟨rfl,h2,h3,x,rfl,rfl⟩)))
    | none =>
     have e3:lO es W=(0,W):=by unfold lO;rw [h4]
     rw [e3,if_neg (fun k=>k rfl)]
     cases h5:nh 0 es W.d with
     | some k =>
      have e4:jk es W=(2,{ W with gone:=2,sy:=(k:Int) }):=by unfold jk;rw [h5]
      rw [e4,if_pos (by simp)]
      exact .inr (.inr (.inr (.inr (.inl ⟨rfl,h2,h3,rfl,k,rfl,rfl⟩))))
     | none =>
      have e4:jk es W=(0,W):=by unfold jk;rw [h5]
      rw [e4,if_neg (fun k=>k rfl)]
      exact .inr (.inr (.inr (.inr (.inr ⟨rfl,h2,h3,rfl,rfl,rfl⟩))))
   ·have e2:jC g es W=(1,gf (cx g es W.d).2.1 { W with d:=ia (cx g es W.d).1 }):=by unfold jC;rw [if_neg (fun k=>k h2),if_neg h3]
    rw [e2,if_pos (by simp)]
    exact .inr (.inr (.inl ⟨rfl,h2,h3,rfl⟩))
  ·have e2:jC g es W=(2,{ W with e:=(cx g es W.d).2.2 }):=by unfold jC;rw [if_pos h2]
   rw [e2,if_pos (by simp)]
   exact .inr (.inl ⟨rfl,h2,rfl⟩)
 ·have e1:gO W=(2,{ W with gone:=1 }):=by unfold gO;rw [h1];rfl
  rw [e1,if_pos (by simp)]
  exact .inl ⟨rfl,rfl⟩
end Go.Proofs
