/- Part 46 of my own framework and of the walks of functions: Ya, Yb, Yc, Yd, Za, Ye, Yf, Yg, Yh, Yi, Vf, Yj, Zb, Zc, Zd, Ba, Bb, Bd, Be, Ca, Cb, Cc, Cd, Ce, AcsZb, Cf, Cg, Ch, Ci, Cj, Ck, Cl, Cm, Cn, Co, Cp, Cq, Cr. -/
import Derived.Test.YtfjbdamcmiglgaaGreatOwn45
abbrev jy:=@Decidable.byContradiction
abbrev o9:=@List.drop_of_length_le
abbrev iN:=@List.idxOf_lt_length_of_mem
abbrev mM:=@List.length_eraseIdx_of_lt
abbrev lh:=@List.mem_append_right
abbrev oG:=@List.mem_flatMap
abbrev n6:=@List.mem_of_mem_eraseIdx
abbrev ja:=@Nat.one_lt_two
set_option linter.unusedVariables false
set_option linter.unusedSectionVars false
set_option linter.unusedSimpArgs false
namespace Go.Proofs
open Go Go.c8
theorem Tg (h k s:Int):∀ l:List (Int×Int),fA (lb l k s) h=fA l h+if h=k then s else 0
 | []=>by
  simp only [lb,fA]
  by_cases e:h=k
  ·rw [if_pos e.symm,if_pos e];omega
  ·rw [if_neg (fY e),if_neg e];rfl
 | x :: r=>by
  have ih:=Tg h k s r
  simp only [lb]
  split
  ·rename_i e
   simp only [fA]
   by_cases e2:x.1=h
   ·rw [if_pos e2,if_pos e2,if_pos (by omega)]
   ·rw [if_neg e2,if_neg e2,if_neg (by omega)];omega
  ·rename_i e
   simp only [fA]
   by_cases e2:x.1=h
   ·rw [if_pos e2,if_pos e2,if_neg (by omega)];omega
   ·rw [if_neg e2,if_neg e2,ih]
theorem K1 (k s:Int):∀ (l:List (Int×Int)) (h:Int),h∈(lb l k s).map Prod.fst↔h=k∨h∈l.map Prod.fst
 | [],h=>by simp [lb]
 | x :: r,h=>by
  have ih:=K1 k s r h
  simp only [lb]
  split
  ·rename_i e
   simp only [aF,aQ]
   rw [← e];constructor
   ·rintro (h1 | h1);exact .inl h1;exact .inr (.inr h1)
   ·rintro (h1 | h1 | h1);exact .inl h1;exact .inl h1;exact .inr h1
  ·simp only [aF,aQ,ih]
   constructor
   ·rintro (h1 | h1 | h1);exact .inr (.inl h1);exact .inl h1;exact .inr (.inr h1)
   ·rintro (h1 | h1 | h1);exact .inr (.inl h1);exact .inl h1;exact .inr (.inr h1)
theorem Sf (k s:Int):∀ (l:List (Int×Int)),(l.map Prod.fst).Nodup→((lb l k s).map Prod.fst).Nodup
 | [],_=>by simp [lb]
 | x :: r,h=>by
  simp only [aF,eQ] at h
  simp only [lb]
  split
  ·rename_i e
   simp only [aF,eQ]
   exact h
  ·rename_i e
   simp only [aF,eQ]
   refine ⟨fun hm=>?_,Sf k s r h.2⟩
   rcases (K1 k s r x.1).1 hm with h1 | h1
   ·exact e h1
   ·exact h.1 h1
def vJ (l:List (Int×Int)):Prop:=(l.map Prod.fst).Nodup∧∀ h∈l.map Prod.fst,h<0
theorem S4 {l:List (Int×Int)}:∀ (_:(l.map Prod.fst).Nodup) (x:Int×Int),x∈l→fA l x.1=x.2:=by
 induction l with
 | nil=>intro _ x h;cases h
 | cons a l ih =>
  intro hn x hx
  simp only [aF,eQ] at hn
  simp only [fA]
  rcases aQ.1 hx with rfl | hx
  ·rw [if_pos rfl]
  ·rw [if_neg (fun e:a.1=x.1=>hn.1 (by rw [e];exact mr hx))]
   exact ih hn.2 x hx
theorem Xl {l:List (Int×Int)} {h:Int}:h ∉ l.map Prod.fst→fA l h=0:=by
 induction l with
 | nil=>intro _;rfl
 | cons a l ih =>
  intro hn
  simp only [aF,aQ,not_or] at hn
  simp only [fA]
  rw [if_neg (fY hn.1)]
  exact ih hn.2
theorem Te {l:List (Int×Int)} (hl:vJ l) (p:Int→Bool) (hp:p 0=false):(l.map Prod.snd).any p=true↔∃ h,h<0∧p (fA l h)=true:=by
 rw [dM]
 constructor
 ·rintro ⟨y,hy,hpy⟩
  obtain ⟨x,hx,rfl⟩:=cn.1 hy
  exact ⟨x.1,hl.2 _ (mr hx),by rw [S4 hl.1 x hx];exact hpy⟩
 ·rintro ⟨h,_,M9⟩
  by_cases hm:h∈l.map Prod.fst
  ·obtain ⟨x,hx,rfl⟩:=cn.1 hm
   exact ⟨x.2,mr hx,by rw [← S4 hl.1 x hx];exact M9⟩
  ·rw [Xl hm,hp] at M9;cases M9
mutual
theorem KK (g:List Sy) (s:Int):∀ (t:Tm) (x:Int×List (Int×Int)),t.good=true→vJ x.2→(rI g s t x).1=x.1+s*t.mn g∧vJ (rI g s t x).2∧∀ h,h<0→fA (rI g s t x).2 h=fA x.2 h+s*(t.cv (-1 - h):Int)
 | .mk k ts,x,hg,hx=>by
  obtain ⟨g1,g2,g3,g4⟩:=zH hg
  simp only [Tm.head,Tm.args] at g1 g2 g3 g4
  rw [rI,Tm.mn]
  by_cases hn:k<0
  ·rw [if_pos hn,if_pos hn]
   have ru:=g4 hn
   refine ⟨by simp only;omega,⟨Sf k s _ hx.1,fun h hm=>?_⟩,fun h hh=>?_⟩
   ·rcases (K1 k s _ h).1 hm with rfl | hm
    ·exact hn
    ·exact hx.2 h hm
   ·simp only
    rw [Tg,Tm.cv,ru,Tm.Bj]
    by_cases e:h=k
    ·rw [if_pos e,if_pos (by omega)];simp
    ·rw [if_neg e,if_neg (by omega)];simp
  ·rw [if_neg hn,if_neg hn]
   have Bu:Tm.fT ts=true:=by rw [Tm.good,aD] at hg;exact hg.2
   obtain ⟨a1,a2,a3⟩:=SQ g s ts (x.1+s*nq g k,x.2) Bu hx
   refine ⟨?_,a2,fun h hh=>?_⟩
   ·rw [a1]
    have:=KO g ts 0 (nq g k)
    rw [Int.zero_add] at this
    rw [this,Int.mul_add]
    simp only;omega
   ·rw [a3 h hh,Tm.cv,if_neg (by omega),bm]
theorem SQ (g:List Sy) (s:Int):∀ (ts:List Tm) (x:Int×List (Int×Int)),Tm.fT ts=true→vJ x.2→(ot g s ts x).1=x.1+s*Tm.pL g ts 0∧vJ (ot g s ts x).2∧∀ h,h<0→fA (ot g s ts x).2 h=fA x.2 h+s*(Tm.Bj (-1 - h) ts:Int)
 | [],x,_,hx=>by
  rw [ot]
  exact ⟨by simp [Tm.pL],hx,fun h _=>by simp [Tm.Bj]⟩
 | t :: ts,x,hg,hx=>by
  rw [Tm.fT,aD] at hg
  rw [ot]
  obtain ⟨a1,a2,a3⟩:=KK g s t x hg.1 hx
  obtain ⟨b1,b2,b3⟩:=SQ g s ts _ hg.2 a2
  refine ⟨?_,b2,fun h hh=>?_⟩
  ·rw [b1,a1,Tm.pL]
   have:=KO g ts 0 (t.mn g)
   rw [this,Int.mul_add];omega
  ·rw [b3 h hh,a3 h hh,Tm.Bj]
   push_cast
   rw [Int.mul_add];omega
end
theorem KB (g:List Sy) {t u:Tm} (ht:t.good=true) (hu:u.good=true):(nK g t u).1=t.mn g - u.mn g∧vJ (nK g t u).2∧∀ h,h<0→fA (nK g t u).2 h=(t.cv (-1 - h):Int) - u.cv (-1 - h):=by
 have h0:vJ ([]:List (Int×Int)):=⟨by simp,fun h hh=>by simp at hh⟩
 obtain ⟨a1,a2,a3⟩:=KK g 1 t (0,[]) ht h0
 obtain ⟨b1,b2,b3⟩:=KK g (-1) u _ hu a2
 unfold nK
 refine ⟨by rw [b1,a1];simp only;omega,b2,fun h hh=>?_⟩
 rw [b3 h hh,a3 h hh]
 simp only [fA];omega
mutual
theorem Ox {v:Int} (hv : 0≤v):∀ t:Tm,t.gU (fun w=>w≠v)→t.cv v=0
 | .mk h ts,ha=>by
  rw [Tm.cv,Ux hv ts ha.2]
  by_cases e:h = -1 - v
  ·exact absurd (by omega) (ha.1 (by omega))
  ·rw [if_neg e]
theorem Ux {v:Int} (hv : 0≤v):∀ ts:List Tm,Tm.jc (fun w=>w≠v) ts→Tm.Bj v ts=0
 | [],_=>rfl
 | t :: ts,ha=>by rw [Tm.Bj,Ox hv t ha.1,Ux hv ts ha.2]
end
theorem Yxx {v:Int} (hv : 0≤v) {t:Tm} (h:v ∉ t.vars):t.cv v=0 :=
 Ox hv t ((DZ t).1 fun w hw e=>h (e ▸ hw))
theorem Ka (a b:Tm):gw a b=true↔∀ v,0≤v→b.cv v≤a.cv v:=by
 unfold gw
 rw [bp]
 constructor
 ·intro h v hv
  by_cases hm:v∈b.vars
  ·exact of_decide_eq_true (h v hm)
  ·rw [Yxx hv hm];exact av _
 ·intro h v hm
  exact decide_eq_true (h v (Zus b v hm))
theorem Zyo {g:List Sy} {t u:Tm} (ht:t.good=true) (hu:u.good=true):(((nK g t u).2.map Prod.snd).any fun n=>decide (n<0)) = !gw t u:=by
 obtain ⟨_,h2,h3⟩:=KB g ht hu
 have h:=Te h2 (fun n=>decide (n<0)) rfl
 rw [fq,h,bT,← da,Ka]
 constructor
 ·rintro ⟨k,hk,hp⟩ eK
  have:=eK (-1 - k) (by omega)
  have hp:=of_decide_eq_true hp
  rw [h3 k hk] at hp
  omega
 ·intro hn
  obtain ⟨v,hv⟩:=Classical.not_forall.1 hn
  obtain ⟨Nv,Ew⟩:=Classical.not_imp.1 hv
  refine ⟨-1 - v,by omega,decide_eq_true ?_⟩
  rw [h3 _ (by omega),show -1 - (-1 - v)=v by omega]
  omega
theorem V5 {g:List Sy} {t u:Tm} (ht:t.good=true) (hu:u.good=true):(((nK g t u).2.map Prod.snd).any fun n=>decide (0<n)) = !gw u t:=by
 obtain ⟨_,h2,h3⟩:=KB g ht hu
 have h:=Te h2 (fun n=>decide (0<n)) rfl
 rw [fq,h,bT,← da,Ka]
 constructor
 ·rintro ⟨k,hk,hp⟩ eK
  have:=eK (-1 - k) (by omega)
  have hp:=of_decide_eq_true hp
  rw [h3 k hk] at hp
  omega
 ·intro hn
  obtain ⟨v,hv⟩:=Classical.not_forall.1 hn
  obtain ⟨Nv,Ew⟩:=Classical.not_imp.1 hv
  refine ⟨-1 - v,by omega,decide_eq_true ?_⟩
  rw [h3 _ (by omega),show -1 - (-1 - v)=v by omega]
  omega
theorem Pc {g:List Sy} {t u:Tm} (ht:t.good=true) (hu:u.good=true) (n:Int):td (nK g t u) n=mF n (!gw u t) (!gw t u):=by
 unfold td;rw [Zyo ht hu,V5 ht hu]
theorem Jv {g:List Sy} {t u:Tm} (ht:t.good=true) (hu:u.good=true) {n:Int}:td (nK g t u) n=1↔0<n∧gw t u=true:=by
 rw [Pc ht hu];unfold mF
 by_cases h1 : 0<n∧(!gw t u)=false
 ·rw [if_pos h1];simpa using h1
 ·rw [if_neg h1]
  simp only [iw] at h1
  split<;>(constructor<;>intro h<;>first | omega | exact absurd h h1)
theorem Jy {g:List Sy} {t u:Tm} (ht:t.good=true) (hu:u.good=true) {n:Int}:td (nK g t u) n = -1↔n<0∧gw u t=true:=by
 rw [Pc ht hu];unfold mF
 by_cases h1 : 0<n∧(!gw t u)=false
 ·rw [if_pos h1]
  constructor
  ·intro h;omega
  ·intro h;omega
 ·rw [if_neg h1]
  by_cases h2:n<0∧(!gw u t)=false
  ·rw [if_pos h2];simpa using h2
  ·rw [if_neg h2]
   simp only [iw] at h2
   constructor
   ·intro h;omega
   ·intro h;exact absurd h h2
theorem Js (x:Int×List (Int×Int)) (n:Int):td x n≠0:=by
 unfold td mF
 split
 ·omega
 split<;>omega
theorem SB (g:List Sy) (t u:Tm):dQ g t u=if t=u then 0 else if (nK g t u).1≠0 then td (nK g t u) (nK g t u).1 else
  if t.head<0∨u.head<0 then 2 else if t.head≠u.head then td (nK g t u) (t.head - u.head) else gx g (nK g t u) t.args u.args:=by
 cases t;rw [dQ];rfl
theorem Ju (g:List Sy) (t u:Tm):t.gr g u=if gw t u=false then false else if t.mn g≠u.mn g then decide (u.mn g<t.mn g) else if t.head<0∨u.head<0 then false else if t.head≠u.head then decide (u.head<t.head) else Tm.rD g t.args u.args:=by
 cases t;rw [Tm.gr];rfl
theorem Jl {t u:Tm} (h1:t.head=u.head) (h2:t.args=u.args):t=u:=by
 cases t;cases u;simp only [Tm.head,Tm.args] at h1 h2;rw [h1,h2]
theorem K4 (x:Int×List (Int×Int)) (n:Int):td x n=1∨td x n = -1∨td x n=2:=by
 unfold td mF
 split
 ·exact .inl rfl
 split
 ·exact .inr (.inl rfl)
 ·exact .inr (.inr rfl)
theorem Qy (g:List Sy) (x:Int×List (Int×Int)):∀ ts us:List Tm,gx g x ts us=0∨gx g x ts us=1∨gx g x ts us = -1∨gx g x ts us=2
 | [],_=>by rw [gx];simp
 | _ :: _,[]=>by rw [gx];simp
 | t :: ts,u :: us=>by
  rw [gx]
  split
  ·split
   ·exact .inr (.inr (.inr rfl))
   ·exact .inr (K4 _ _)
  ·exact Qy g x ts us
theorem Rf (g:List Sy) (t u:Tm):dQ g t u=0∨dQ g t u=1∨dQ g t u = -1∨dQ g t u=2:=by
 rw [SB]
 split
 ·exact .inl rfl
 split
 ·exact .inr (K4 _ _)
 split
 ·exact .inr (.inr (.inr rfl))
 split
 ·exact .inr (K4 _ _)
 ·exact Qy _ _ _ _
def agree (g:List Sy) (t u:Tm):Prop:=(dQ g t u=1↔t.gr g u=true)∧(dQ g t u = -1↔u.gr g t=true)∧(dQ g t u=0↔t=u)
theorem P7 {g:List Sy} {x y:Tm} (hx:x.good=true) (hy:y.good=true):∀ (ts us:List Tm),ts.length=us.length→(∀ t∈ts, ∀ u∈us,agree g t u) →
  (gx g (nK g x y) ts us=1↔Tm.rD g ts us=true∧gw x y=true)∧(gx g (nK g x y) ts us = -1↔Tm.rD g us ts=true∧gw y x=true)∧(gx g (nK g x y) ts us=0↔ts=us)
 | [],[],_,_=>by
  rw [gx,Tm.rD]
  exact ⟨⟨fun h=>by omega,fun h=>by cases h.1⟩,⟨fun h=>by omega,fun h=>by cases h.1⟩,by simp⟩
 | t :: ts,u :: us,hl,h=>by
  obtain ⟨a1,a2,a3⟩:=h t (by simp) u (by simp)
  have ih:=P7 hx hy ts us (by simpa using hl) (fun a ha b hb=>h a (by simp [ha]) b (by simp [hb]))
  rw [gx,Tm.rD,Tm.rD]
  by_cases e:t=u
  ·rw [if_neg (fun hn=>hn (a3.2 e)),if_pos e,if_pos e.symm]
   refine ⟨ih.1,ih.2.1,?_⟩
   rw [ih.2.2,e];simp
  ·have eg:dQ g t u≠0:=fun h0=>e (a3.1 h0)
   rw [if_pos eg,if_neg e,if_neg (fY e)]
   by_cases h2:dQ g t u=2
   ·rw [if_pos h2]
    refine ⟨⟨fun h=>by omega,fun h=>?_⟩,⟨fun h=>by omega,fun h=>?_⟩,⟨fun h=>by omega,fun h=>?_⟩⟩
    ·have:=a1.2 h.1;omega
    ·have:=a2.2 h.1;omega
    ·exact absurd (jT h).1 e
   ·rw [if_neg h2]
    refine ⟨?_,?_,⟨fun h=>absurd h (Js _ _),fun h=>absurd (jT h).1 e⟩⟩
    ·rw [Jv hx hy,← a1]
     constructor
     ·rintro ⟨h3,h4⟩
      refine ⟨?_,h4⟩
      rcases Rf g t u with h5 | h5 | h5 | h5<;>omega
     ·rintro ⟨h3,h4⟩;exact ⟨by omega,h4⟩
    ·rw [Jy hx hy,← a2]
     constructor
     ·rintro ⟨h3,h4⟩
      refine ⟨?_,h4⟩
      rcases Rf g t u with h5 | h5 | h5 | h5<;>omega
     ·rintro ⟨h3,h4⟩;exact ⟨by omega,h4⟩
def xi (g:List Sy) (t u:Tm):Bool:=if t.mn g≠u.mn g then decide (u.mn g<t.mn g) else if t.head<0∨u.head<0 then false else if t.head≠u.head then decide (u.head<t.head) else Tm.rD g t.args u.args
theorem Pr (g:List Sy) (t u:Tm):t.gr g u=(gw t u&&xi g t u):=by
 rw [Ju];unfold xi
 cases gw t u<;>simp
theorem KS (g:List Sy):∀ l:List Tm,Tm.rD g l l=false
 | []=>rfl
 | a :: l=>by rw [Tm.rD,if_pos rfl];exact KS g l
theorem QC (g:List Sy):∀ (n:Nat) (t u:Tm),t.size≤n→jQ g t→jQ g u→agree g t u
 | 0,t,_,h,_,_=>by have:=zF t;omega
 | n+1,t,u,hn,ht,hu=>by
  have gt:=(sm (oH ht.1).1).2.2
  have gu:=(sm (oH hu.1).1).2.2
  have hW:=(KB g gt gu).1
  unfold agree
  rw [SB,Pr g t u,Pr g u t]
  by_cases e:t=u
  ·subst e
   rw [if_pos rfl]
   have key:xi g t t=false:=by
    unfold xi
    rw [if_neg (fun h=>h rfl),if_neg (fun h=>h rfl:¬ t.head≠t.head),KS]
    split<;>rfl
   rw [key,gW]
   exact ⟨⟨fun h=>by omega,fun h=>by cases h⟩,⟨fun h=>by omega,fun h=>by cases h⟩,by simp⟩
  ·rw [if_neg e]
   by_cases c1:t.mn g=u.mn g
   ·rw [if_neg (by omega)]
    have r1:xi g t u=if t.head<0∨u.head<0 then false else if t.head≠u.head then decide (u.head<t.head) else Tm.rD g t.args u.args:=by unfold xi;rw [if_neg (fun h=>h c1)]
    have r2:xi g u t=if u.head<0∨t.head<0 then false else if u.head≠t.head then decide (t.head<u.head) else Tm.rD g u.args t.args:=by unfold xi;rw [if_neg (fun h=>h c1.symm)]
    by_cases c2:t.head<0∨u.head<0
    ·rw [if_pos c2] at r1 ⊢
     rw [if_pos c2.symm] at r2
     rw [r1,r2,gW,gW]
     exact ⟨⟨fun h=>by omega,fun h=>by cases h⟩,⟨fun h=>by omega,fun h=>by cases h⟩,⟨fun h=>by omega,fun h=>absurd h e⟩⟩
    ·rw [if_neg c2] at r1 ⊢
     rw [if_neg (fun h=>c2 h.symm)] at r2
     by_cases c3:t.head=u.head
     ·rw [if_neg (fun h=>h c3)] at r1 ⊢
      rw [if_neg (fun h=>h c3.symm)] at r2
      have hl:=Yuj ht hu (by omega) c3
      have hA:=P7 (g:=g) gt gu t.args u.args hl (fun a ha b hb=>QC g n a b (by have:=sT ha;have:=ov t;omega) (KZ t ht a ha) (KZ u hu b hb))
      rw [r1,r2,aD,aD]
      refine ⟨?_,?_,?_⟩
      ·rw [hA.1];exact And.comm
      ·rw [hA.2.1];exact And.comm
      ·rw [hA.2.2]
       exact ⟨fun h=>Jl c3 h,fun h=>absurd h e⟩
     ·rw [if_pos c3] at r1 ⊢
      rw [if_pos (fY c3)] at r2
      rw [r1,r2,aD,aD,decide_eq_true_eq,decide_eq_true_eq]
      refine ⟨?_,?_,⟨fun h=>absurd h (Js _ _),fun h=>absurd h e⟩⟩
      ·rw [Jv gt gu];exact ⟨fun h=>⟨h.2,by omega⟩,fun h=>⟨by omega,h.1⟩⟩
      ·rw [Jy gt gu];exact ⟨fun h=>⟨h.2,by omega⟩,fun h=>⟨by omega,h.1⟩⟩
   ·rw [if_pos (by omega)]
    have r1:xi g t u=decide (u.mn g<t.mn g):=by unfold xi;rw [if_pos c1]
    have r2:xi g u t=decide (t.mn g<u.mn g):=by unfold xi;rw [if_pos (fY c1)]
    rw [r1,r2,aD,aD,decide_eq_true_eq,decide_eq_true_eq]
    refine ⟨?_,?_,⟨fun h=>absurd h (Js _ _),fun h=>absurd h e⟩⟩
    ·rw [Jv gt gu,hW];exact ⟨fun h=>⟨h.2,by omega⟩,fun h=>⟨by omega,h.1⟩⟩
    ·rw [Jy gt gu,hW];exact ⟨fun h=>⟨h.2,by omega⟩,fun h=>⟨by omega,h.1⟩⟩
theorem S_ {g:List Sy} {t u:Tm} (ht:jQ g t) (hu:jQ g u):decide (dQ g t u=1)=t.gr g u:=by
 have:=(QC g _ t u (ah _) ht hu).1
 rw [fq,decide_eq_true_eq];exact this
section
variable {α:Type} (same : α→α→Bool)
def wo (x : α):List α→Option (List α)
 | []=>none
 | y :: b=>if same x y=true then some b else (wo x b).map (y :: ·)
def dy:List α→List α→List α
 | [],_=>[]
 | x :: a,b=>match wo same x b with
  | none=>x :: dy a b
  | some b'=>dy a b'
def lj:List α→List Bool→List α
 | y :: b,u :: us=>if u=true then lj b us else y :: lj b us
 | _,_=>[]
theorem O_ (y : α) (b:List α) (us:List Bool):lj (y :: b) (false :: us)=y :: lj b us:=by rw [lj];exact if_neg (by simp)
theorem RL:∀ b:List α,lj b (List.replicate b.length false)=b
 | []=>rfl
 | y :: b=>by rw [ax,fw,lj,if_neg (by simp),RL b]
def Cw (x : α):List α→List Bool→Nat→Option Nat
 | y :: b,u :: us,k=>if (!u&&same x y)=true then some k else Cw x b us (k+1)
 | _,_,_=>none
theorem PC {b0:List α} {DC:List Bool} (hl:DC.length=b0.length) (x : α):∀ (n k:Nat),b0.length - k=n→k≤b0.length→fk (Jh same b0 DC x) n k=Cw same x (b0.drop k) (DC.drop k) k
 | 0,k,h,hk=>by
  have:k=b0.length:=by omega
  subst this
  rw [fk,aV]
  cases DC.drop b0.length<;>rfl
 | n+1,k,h,hk=>by
  have h1:k<b0.length:=by omega
  have h2:k<DC.length:=by omega
  have hg:DC.getD k false=DC[k]:=by simp [List.getD,h2]
  rw [fk,Ywh h1,hg,ao h1,ao h2,Cw,PC hl x n (k+1) (by omega) (by omega)]
theorem Px (x : α):∀ (b:List α) (us:List Bool) (k:Nat),us.length=b.length→(Cw same x b us k=none→wo same x (lj b us)=none)∧∀ j,Cw same x b us k=some j→k≤j∧wo same x (lj b us)=some (lj b (us.set (j - k) true))
 | [],us,k,_=>by
  cases us<;>exact ⟨fun _=>rfl,fun j h=>by cases h⟩
 | y :: b,[],k,h=>by simp at h
 | y :: b,u :: us,k,h=>by
  obtain ⟨i1,i2⟩:=Px x b us (k+1) (by simpa using h)
  rw [Cw]
  cases u with
  | true =>
   simp only [Bool.not_true,db,a8,if_false]
   rw [lj,if_pos rfl]
   refine ⟨i1,fun j hj=>?_⟩
   obtain ⟨j1,j2⟩:=i2 j hj
   refine ⟨by omega,?_⟩
   rw [j2,show j - k=(j - (k+1))+1 by omega,cZ,lj,if_pos rfl]
  | false =>
   simp only [Bool.not_false,ct]
   rw [O_,wo]
   cases hs:same x y with
   | true =>
    simp only [if_true]
    refine ⟨fun h=>(by cases h),fun j hj=>?_⟩
    cases hj
    refine ⟨ah _,?_⟩
    rw [d_,de,lj,if_pos rfl]
   | false =>
    simp only [a8,if_false]
    refine ⟨fun h=>by rw [i1 h];rfl,fun j hj=>?_⟩
    obtain ⟨j1,j2⟩:=i2 j hj
    refine ⟨by omega,?_⟩
    rw [j2,show j - k=(j - (k+1))+1 by omega,cZ,O_];rfl
theorem Le (b0:List α):∀ (a:List α) (us:List Bool),us.length=b0.length→xu same b0 a us=dy same a (lj b0 us)
 | [],_,_=>by rw [xu,dy]
 | x :: a,us,hl=>by
  rw [xu,dy]
  have e1:=PC same hl x b0.length 0 (by omega) (av _)
  rw [di,di] at e1
  obtain ⟨h1,h2⟩:=Px same x b0 us 0 hl
  rw [e1]
  cases hf:Cw same x b0 us 0 with
  | none=>rw [h1 hf];simp only;rw [Le b0 a us hl]
  | some k =>
   rw [(h2 k hf).2]
   simp only [gG]
   rw [Le b0 a (us.set k true) (by rw [bg];exact hl)]
theorem A9 (a b:List α):xu same b a (List.replicate b.length false)=dy same a b:=by
 rw [Le same b a _ (by simp),RL]
theorem Jm (x : α):∀ (b:List α) (n:Int),0≤n→(dF (fun y=>same x y) b n<0→wo same x b=none)∧(¬ dF (fun y=>same x y) b n<0→n≤dF (fun y=>same x y) b n∧wo same x b=some (b.take (dF (fun y=>same x y) b n - n).toNat++b.drop ((dF (fun y=>same x y) b n - n).toNat+1)))
 | [],n,_=>by rw [dF];exact ⟨fun _=>rfl,fun h=>by omega⟩
 | y :: b,n,hn=>by
  obtain ⟨i1,i2⟩:=Jm x b (n+1) (by omega)
  rw [dF,wo]
  cases hs:same x y with
  | true =>
   simp only [if_true]
   refine ⟨fun h=>by omega,fun _=>⟨qo _,?_⟩⟩
   rw [Int.sub_self];rfl
  | false =>
   simp only [a8,if_false]
   refine ⟨fun h=>by rw [i1 h];rfl,fun h=>?_⟩
   obtain ⟨j1,j2⟩:=i2 h
   refine ⟨by omega,?_⟩
   rw [j2,show (dF (fun y=>same x y) b (n+1) - n).toNat=(dF (fun y=>same x y) b (n+1) - (n+1)).toNat+1 by omega,eN,List.drop_succ_cons];rfl
end
theorem H5:∀ a b:List Li,eC a b=dy eS a b
 | [],_=>by rw [eC,dy]
 | x :: a,b=>by
  rw [eC,dy]
  obtain ⟨h1,h2⟩:=Jm eS x b 0 (qo _)
  split
  ·rename_i h;rw [h1 h];simp only;rw [H5 a b]
  ·rename_i h;rw [(h2 h).2,Int.sub_zero];simp only;rw [H5 a];rfl
theorem Ie:∀ a b:List Tm,dS a b=dy tI a b
 | [],_=>by rw [dS,dy]
 | x :: a,b=>by
  rw [dS,dy]
  obtain ⟨h1,h2⟩:=Jm tI x b 0 (qo _)
  have he:(fun y=>decide (x=y))=fun y=>tI x y:=rfl
  rw [he]
  split
  ·rename_i h;rw [h1 h];simp only;rw [Ie a b]
  ·rename_i h;rw [(h2 h).2,Int.sub_zero];simp only;rw [Ie a];rfl
theorem DO {α:Type} (same : α→α→Bool):∀ (a b:List α), ∀ x∈dy same a b,x∈a
 | [],_,x,h=>by rw [dy] at h;cases h
 | y :: a,b,x,h=>by
  rw [dy] at h
  split at h
  ·rcases aQ.1 h with rfl | h
   ·simp
   ·exact cB _ (DO same a b x h)
  ·exact cB _ (DO same a _ x h)
theorem R9 {α:Type} {f h : α→α→Bool} {a b:List α} (he:∀ x∈a, ∀ y∈b,f x y=h x y):pI f a b=pI h a b:=by
 have:∀ (b:List α),(∀ x∈a, ∀ y∈b,f x y=h x y)→(b.all fun y=>a.any fun x=>f x y)=b.all fun y=>a.any fun x=>h x y:=by
  intro b
  induction b with
  | nil=>intro _;rfl
  | cons y b ih =>
   intro hb
   rw [jS,jS,ih fun x hx z hz=>hb x hx z (by simp [hz])]
   congr 1
   have:∀ l:List α,(∀ x∈l,f x y=h x y)→(l.any fun x=>f x y)=l.any fun x=>h x y:=by
    intro l
    induction l with
    | nil=>intro _;rfl
    | cons z l ihl=>intro hz;rw [dX,dX,hz z (by simp),ihl fun x hx=>hz x (by simp [hx])]
   exact this a fun x hx=>hb x hx y (by simp)
 unfold pI;rw [this b he]
theorem QA {α:Type} (p : α→Bool):∀ b:List α,(!b.any fun y=>!p y)=b.all p
 | []=>rfl
 | y :: b=>by
  rw [dX,jS,← QA p b]
  cases p y<;>simp
theorem Tz {g:List Sy} {a b:List Tm} (ha:∀ x∈a,jQ g x) (hb:∀ x∈b,jQ g x):mE g a b=pI (Tm.gr g) a b:=by
 have h1:mE g a b=pI (fun x y=>decide (dQ g x y=1)) a b:=by
  unfold mE pI
  rw [QA (fun y=>tD g a y),Bool.and_comm];rfl
 rw [h1]
 exact R9 fun x hx y hy=>S_ (ha x hx) (hb y hy)
theorem Yz {g:List Sy} {a b:List Tm} (ha:∀ x∈a,jQ g x) (hb:∀ x∈b,jQ g x):pG g a b=vB tI (Tm.gr g) a b:=by
 unfold pG vB
 have m1:∀ x∈dy tI a b,jQ g x:=fun x hx=>ha x (DO tI a b x hx)
 have m2:∀ x∈dy tI b a,jQ g x:=fun x hx=>hb x (DO tI b a x hx)
 rw [Ie,Ie,A9,A9,Tz m1 m2,Tz m2 m1]
theorem Yvc {g:List Sy} {a b:Li} (ha:a.check g=0) (hb:b.check g=0) (ra:BO g a) (rb:BO g b):y_ g a b=decide (AL g a b=1):=by
 unfold y_ p8 AL
 rw [if_neg (fun h=>h ha),if_neg (fun h=>h hb),Yz (N_ ra) (N_ rb)]
 simp
theorem TR (g:List Sy) (a:List Li):∀ b:List Li,kl g a b=pI (y_ g) a b
 | []=>by rw [kl];simp [pI]
 | y :: b=>by
  rw [kl,Yjy,TR g a b]
  cases a.any fun x=>y_ g x y<;>simp
theorem T7 {g:List Sy} {a b:List Li} (ha:∀ x∈a,x.check g=0∧BO g x) (hb:∀ x∈b,x.check g=0∧BO g x):kl g a b=pI (fun x y=>decide (AL g x y=1)) a b:=by
 rw [TR]
 exact R9 fun x hx y hy=>Yvc (ha x hx).1 (hb y hy).1 (ha x hx).2 (hb y hy).2
theorem Ov {g:List Sy} {c:List Li} (h:j4 g c):∀ x∈c,x.check g=0∧BO g x:=fun x hx=>⟨(yV h.1).2.2 x hx,uE h hx⟩
theorem Yrx {g:List Sy} {a b:List Li} (ha:j4 g a) (hb:j4 g b):oK g a b=(uq g a b,0):=by
 unfold oK uq vB
 have m1:∀ x∈dy eS a b,x.check g=0∧BO g x:=fun x hx=>Ov ha x (DO eS a b x hx)
 have m2:∀ x∈dy eS b a,x.check g=0∧BO g x:=fun x hx=>Ov hb x (DO eS b a x hx)
 rw [if_neg (fun h=>h ha.1),if_neg (fun h=>h hb.1),H5,H5,A9,A9,T7 m1 m2,T7 m2 m1]
 split
 ·rfl
 split
 ·rfl
 split
 ·rfl
 ·rfl
section
variable {α:Type}
def dO (same : α→α→Bool) (x : α):List α→Nat
 | []=>0
 | y :: l=>(if same x y=true then 1 else 0)+dO same x l
structure oD (same : α→α→Bool):Prop where
 refl:∀ x,same x x=true
 symm:∀ x y,same x y=true→same y x=true
 trans:∀ x y z,same x y=true→same y z=true→same x z=true
variable {same : α→α→Bool}
theorem oD.congr (h:oD same) {x y : α} (hs:same x y=true) (z : α):same z x=same z y:=by
 rw [fq]
 exact ⟨fun h1=>h.trans _ _ _ h1 hs,fun h1=>h.trans _ _ _ h1 (h.symm _ _ hs)⟩
theorem oD.Cu (h:oD same) {x y : α} (hs:same x y=true) (z : α):same x z=same y z:=by
 rw [fq]
 exact ⟨fun h1=>h.trans _ _ _ (h.symm _ _ hs) h1,fun h1=>h.trans _ _ _ hs h1⟩
theorem QL (h:oD same) {x y : α} (hs:same x y=true):∀ l,dO same x l=dO same y l
 | []=>rfl
 | z :: l=>by rw [dO,dO,QL h hs l,h.Cu hs]
theorem E4 (h:oD same) {x : α}:∀ {l:List α},x∈l→0<dO same x l
 | y :: l,hm=>by
  rw [dO]
  rcases aQ.1 hm with rfl | hm
  ·rw [if_pos (h.refl _)];omega
  ·have:=E4 h hm;omega
theorem H6 {x : α}:∀ {l:List α},0<dO same x l→∃ y∈l,same x y=true
 | y :: l,hp=>by
  rw [dO] at hp
  by_cases hs:same x y=true
  ·exact ⟨y,by simp,hs⟩
  ·rw [if_neg hs] at hp
   obtain ⟨z,h1,h2⟩:=H6 (x:=x) (l:=l) (by omega)
   exact ⟨z,by simp [h1],h2⟩
theorem OQ (h:oD same) (x : α):∀ b:List α,(wo same x b=none→dO same x b=0)∧∀ b',wo same x b=some b'→∀ z,dO same z b=dO same z b'+if same z x=true then 1 else 0
 | []=>⟨fun _=>rfl,fun b' h=>by rw [wo] at h;cases h⟩
 | y :: b=>by
  obtain ⟨i1,i2⟩:=OQ h x b
  rw [wo]
  by_cases hs:same x y=true
  ·rw [if_pos hs]
   refine ⟨fun h=>(by cases h),fun b' e z=>?_⟩
   cases e
   rw [dO,h.congr hs z];omega
  ·rw [if_neg hs]
   constructor
   ·intro e
    rw [dO,if_neg hs,i1 (by simpa using e)]
   ·intro b' e z
    cases hr:wo same x b with
    | none=>rw [hr] at e;cases e
    | some b1 =>
     rw [hr] at e
     cases e
     rw [dO,dO,i2 b1 hr z];omega
theorem y4 (h:oD same):∀ (a b:List α) (z : α),dO same z (dy same a b)=dO same z a - dO same z b
 | [],b,z=>by rw [dy,dO];omega
 | x :: a,b,z=>by
  obtain ⟨i1,i2⟩:=OQ h x b
  rw [dy]
  cases hr:wo same x b with
  | none =>
   simp only
   rw [dO,dO,y4 h a b z]
   by_cases hs:same z x=true
   ·have:=QL h hs b
    rw [i1 hr] at this
    rw [if_pos hs];omega
   ·rw [if_neg hs];omega
  | some b' =>
   simp only
   rw [y4 h a b' z,i2 b' hr z,dO];omega
variable {gt : α→α→Bool}
def xv (same gt : α→α→Bool):Prop:=∀ x x' y y',same x x'=true→same y y'=true→gt x y=gt x' y'
theorem Cf (h:oD same) (hg:xv same gt) (a b:List α):pI gt a b=true↔(∀ y,0<dO same y b→∃ x,0<dO same x a∧gt x y=true)∧∃ x,0<dO same x a:=by
 unfold pI
 rw [aD,bp,decide_eq_true_eq]
 constructor
 ·rintro ⟨h1,h2⟩
  refine ⟨fun y hy=>?_,?_⟩
  ·obtain ⟨y',m,s⟩:=H6 hy
   obtain ⟨x,m2,hx⟩:=dM.1 (h1 y' m)
   exact ⟨x,E4 h m2,by rw [hg x x y y' (h.refl _) s];exact hx⟩
  ·obtain ⟨x,l,rfl⟩:=List.exists_cons_of_length_pos h2
   exact ⟨x,E4 h (by simp)⟩
 ·rintro ⟨h1,x0,h2⟩
  refine ⟨fun y hy=>?_,?_⟩
  ·obtain ⟨x,c,hx⟩:=h1 y (E4 h hy)
   obtain ⟨x',m,s⟩:=H6 c
   exact dM.2 ⟨x',m,by rw [← hg x x' y y s (h.refl _)];exact hx⟩
  ·obtain ⟨x',m,_⟩:=H6 h2
   exact List.length_pos_of_mem m
theorem Lj (h:oD same) (a b:List α):a.length+b.length=0↔∀ x,dO same x a=0∧dO same x b=0:=by
 constructor
 ·intro e x
  have e1:a=[]:=gX.1 (by omega)
  have e2:b=[]:=gX.1 (by omega)
  rw [e1,e2];exact ⟨rfl,rfl⟩
 ·intro e
  have key:∀ l:List α,(∀ x,dO same x l=0)→l.length=0:=fun l hl=>by
   cases l with
   | nil=>rfl
   | cons x l=>have:=E4 h (x:=x) (l:=x :: l) (by simp);have:=hl x;omega
  rw [key a fun x=>(e x).1,key b fun x=>(e x).2]
theorem Yj (h:oD same) (hg:xv same gt) {a a' b b':List α} (h1:∀ x,dO same x a=dO same x a') (h2:∀ x,dO same x b=dO same x b'):vB same gt a b=vB same gt a' b':=by
 have e1:∀ x,dO same x (dy same a b)=dO same x (dy same a' b'):=fun x=>by rw [y4 h,y4 h,h1,h2]
 have e2:∀ x,dO same x (dy same b a)=dO same x (dy same b' a'):=fun x=>by rw [y4 h,y4 h,h1,h2]
 have o1:pI gt (dy same a b) (dy same b a)=pI gt (dy same a' b') (dy same b' a'):=by
  rw [fq,Cf h hg,Cf h hg];simp only [e1,e2]
 have o2:pI gt (dy same b a) (dy same a b)=pI gt (dy same b' a') (dy same a' b'):=by
  rw [fq,Cf h hg,Cf h hg];simp only [e1,e2]
 have o3:(dy same a b).length+(dy same b a).length=0↔(dy same a' b').length+(dy same b' a').length=0:=by
  rw [Lj h,Lj h];simp only [e1,e2]
 unfold vB
 simp only [A9,o1,o2,o3]
end
theorem Yox:oD tI:=⟨fun x=>by simp [tI],fun x y h=>by simp [tI] at h ⊢;exact h.symm,fun x y z h1 h2=>by simp [tI] at h1 h2 ⊢;exact h1.trans h2⟩
theorem Ykb (gt:Tm→Tm→Bool):xv tI gt:=fun x x' y y' h1 h2=>by
 simp [tI] at h1 h2;rw [h1,h2]
theorem HV (a b:Li):eS a b=true↔a.neg=b.neg∧((a.l=b.l∧a.r=b.r)∨(a.l=b.r∧a.r=b.l)):=by simp [eS,pv]
theorem WJ:oD eS:=by
 refine ⟨fun x=>?_,fun x y h=>?_,fun x y z h1 h2=>?_⟩
 ·rw [HV];exact ⟨rfl, .inl ⟨rfl,rfl⟩⟩
 ·rw [HV] at h ⊢
  rcases h with ⟨a,⟨b,c⟩ | ⟨b,c⟩⟩
  ·exact ⟨a.symm, .inl ⟨b.symm,c.symm⟩⟩
  ·exact ⟨a.symm, .inr ⟨c.symm,b.symm⟩⟩
 ·rw [HV] at h1 h2 ⊢
  rcases h1 with ⟨a,⟨b,c⟩ | ⟨b,c⟩⟩<;>rcases h2 with ⟨a',⟨b',c'⟩ | ⟨b',c'⟩⟩
  ·exact ⟨a.trans a', .inl ⟨b.trans b',c.trans c'⟩⟩
  ·exact ⟨a.trans a', .inr ⟨b.trans b',c.trans c'⟩⟩
  ·exact ⟨a.trans a', .inr ⟨b.trans c',c.trans b'⟩⟩
  ·exact ⟨a.trans a', .inl ⟨b.trans c',c.trans b'⟩⟩
theorem On {a b:Li} (h:eS a b=true) (x:Tm):dO tI x (lI a)=dO tI x (lI b):=by
 rw [HV] at h
 obtain ⟨e,⟨h1,h2⟩ | ⟨h1,h2⟩⟩:=h
 ·unfold lI;rw [e,h1,h2]
 ·unfold lI
  rw [e,h1,h2]
  split<;>simp only [dO]<;>omega
theorem XZ {g:List Sy} {a a' b b':Li} (h1:eS a a'=true) (h2:eS b b'=true):AL g a b=AL g a' b' :=
 Yj Yox (Ykb _) (On h1) (On h2)
theorem Y5 (g:List Sy):xv eS fun x y=>decide (AL g x y=1):=fun x x' y y' h1 h2=>by simp only [XZ (g:=g) h1 h2]
mutual
def Tm.ap (f:Int→Tm):Tm→Tm
 | .mk h ts=>if h<0 then f (-1 - h) else .mk h (Tm.sU f ts)
def Tm.sU (f:Int→Tm):List Tm→List Tm
 | []=>[]
 | t :: ts=>t.ap f :: Tm.sU f ts
end
theorem Fi (f:Int→Tm):∀ ts,Tm.sU f ts=ts.map (Tm.ap f)
 | []=>rfl
 | t :: ts=>by simp [Tm.sU,Fi f ts]
theorem Fz {f:Int→Tm} {t:Tm} (h:t.head<0):t.ap f=f (-1 - t.head):=by
 cases t;rw [Tm.ap];exact if_pos h
theorem Ee {f:Int→Tm} {t:Tm} (h:¬ t.head<0):t.ap f = .mk t.head (t.args.map (Tm.ap f)):=by
 cases t;rw [Tm.ap,Fi];exact if_neg h
mutual
theorem Cl (bs:List Bd):∀ t:Tm,t.pd bs=t.ap (nV bs)
 | .mk h ts=>by rw [Tm.pd,Tm.ap,PI bs ts]
theorem PI (bs:List Bd):∀ ts:List Tm,Tm.Jf bs ts=Tm.sU (nV bs) ts
 | []=>rfl
 | t :: ts=>by rw [Tm.Jf,Tm.sU,Cl bs t,PI bs ts]
end
mutual
theorem Pq (bs:List Bd):∀ t:Tm,t.good=true→t.sub bs=t.ap (nV bs)
 | .mk h ts,hg=>by
  have ha:=w8 hg
  have hh:=(zH hg).2.2.2
  simp only [Tm.head,Tm.args] at ha hh
  rw [Tm.sub,Tm.ap,O2 bs ts ha]
  split
  ·rename_i hn
   rw [hh hn]
   unfold pR nV
   simp only [Tm.head]
   rw [show -1 - (-1 - h)=h by omega]
  ·rfl
theorem O2 (bs:List Bd):∀ ts:List Tm,(∀ t∈ts,t.good=true)→Tm.rM bs ts=Tm.sU (nV bs) ts
 | [],_=>rfl
 | t :: ts,h=>by rw [Tm.rM,Tm.sU,Pq bs t (h t (by simp)),O2 bs ts fun x hx=>h x (by simp [hx])]
end
mutual
theorem Ia {f k:Int→Tm}:∀ t:Tm,t.gU (fun v=>f v=k v)→t.ap f=t.ap k
 | .mk h ts,hv=>by
  rw [Tm.gU] at hv
  rw [Tm.ap,Tm.ap,SH ts hv.2]
  split
  ·rename_i hn;exact hv.1 hn
  ·rfl
theorem SH {f k:Int→Tm}:∀ ts:List Tm,Tm.jc (fun v=>f v=k v) ts→Tm.sU f ts=Tm.sU k ts
 | [],_=>rfl
 | t :: ts,hv=>by
  rw [Tm.jc] at hv
  rw [Tm.sU,Tm.sU,Ia t hv.1,SH ts hv.2]
end
mutual
theorem Jr {f k:Int→Tm}:∀ t:Tm,t.good=true→t.ap f=t.ap k→t.gU (fun v=>f v=k v)
 | .mk h ts,hg,he=>by
  have ha:=w8 hg
  have hh:=(zH hg).2.2.2
  simp only [Tm.head,Tm.args] at ha hh
  rw [Tm.ap,Tm.ap] at he
  rw [Tm.gU]
  by_cases hn:h<0
  ·rw [if_pos hn,if_pos hn] at he
   exact ⟨fun _=>he,by rw [hh hn];trivial⟩
  ·rw [if_neg hn,if_neg hn] at he
   injection he with _ he
   exact ⟨fun h=>absurd h hn,Od ts ha he⟩
theorem Od {f k:Int→Tm}:∀ ts:List Tm,(∀ t∈ts,t.good=true)→Tm.sU f ts=Tm.sU k ts→Tm.jc (fun v=>f v=k v) ts
 | [],_,_=>trivial
 | t :: ts,hg,he=>by
  rw [Tm.sU,Tm.sU] at he
  injection he with h1 h2
  exact ⟨Jr t (hg t (by simp)) h1,Od ts (fun x hx=>hg x (by simp [hx])) h2⟩
end
theorem Qj {α β:Type} (k : α→β):∀ (a:List α), ∀ p∈a.zip (a.map k),k p.1=p.2
 | x :: a,p,h=>by
  rw [aF,e7] at h
  rcases aQ.1 h with rfl | h
  ·rfl
  ·exact Qj k a p h
theorem Qk {α β:Type} (k : α→β):∀ (a:List α) (b:List β),a.length=b.length→(∀ p∈a.zip b,k p.1=p.2)→a.map k=b
 | [],[],_,_=>rfl
 | x :: a,y :: b,hl,h=>by
  rw [aF,Qk k a b (by simpa using hl) fun p hp=>h p (by rw [e7];simp [hp]),h (x,y) (by rw [e7];simp)]
theorem UB {f:Int→Tm}:∀ (S:List (Tm×Tm)) (m:List Bd),(∀ x∈S,x.1.ap f=x.2)→(∀ b∈m,f b.v=b.t)→∃ m',fh S m=some m'∧∀ b∈m',f b.v=b.t:=by
 intro S m
 induction S,m using fh.induct with
 | case1 m=>intro _ h;exact ⟨m,by rw [fh],h⟩
 | case2 x r m hv c hf he ih =>
  intro h1 h2
  obtain ⟨m',a1,a2⟩:=ih (fun y hy=>h1 y (by simp [hy])) h2
  exact ⟨m',by rw [fh,if_pos hv,hf];simp only [if_pos he];exact a1,a2⟩
 | case3 x r m hv c hf he =>
  intro h1 h2
  refine absurd ?_ he
  have e1:=h2 c (bI hf)
  have e2:=h1 x (by simp)
  have e3:=gB hf
  simp only [beq_iff_eq] at e3
  rw [Fz (by omega),← e3] at e2
  rw [← e1,e2]
 | case4 x r m hv hf ih =>
  intro h1 h2
  have e2:=h1 x (by simp)
  rw [Fz (by omega)] at e2
  obtain ⟨m',a1,a2⟩:=ih (fun y hy=>h1 y (by simp [hy])) (fun b hb=>by
   rcases aW.1 hb with hb | hb
   ·exact h2 b hb
   ·rw [aN.1 hb];exact e2)
  exact ⟨m',by rw [fh,if_pos hv,hf];exact a1,a2⟩
 | case5 x r m hv hc =>
  intro h1 _
  have e2:=h1 x (by simp)
  rw [Ee (by omega)] at e2
  rcases hc with hc | hc
  ·exact absurd (by rw [← e2];rfl) hc
  ·exact absurd (by rw [← e2];simp [Tm.args]) hc
 | case6 x r m hv hc ih =>
  intro h1 h2
  have e2:=h1 x (by simp)
  rw [Ee (by omega)] at e2
  have e3:x.2.args=x.1.args.map (Tm.ap f):=by rw [← e2];rfl
  obtain ⟨m',a1,a2⟩:=ih (fun y hy=>by
   rcases aW.1 hy with hy | hy
   ·have hy:=cO.1 hy
    rw [e3] at hy
    exact Qj _ _ y hy
   ·exact h1 y (by simp [hy])) h2
  exact ⟨m',by rw [fh,if_neg hv,if_neg hc];exact a1,a2⟩
theorem XR:∀ (S:List (Tm×Tm)) (m m':List Bd),fh S m=some m'→(∀ b∈m,b∈m')∧∀ f:Int→Tm,(∀ b∈m',f b.v=b.t)→∀ x∈S,x.1.ap f=x.2:=by
 intro S m
 induction S,m using fh.induct with
 | case1 m =>
  intro m' h
  rw [fh] at h
  cases h
  exact ⟨fun _ h=>h,fun f _ x hx=>by cases hx⟩
 | case2 x r m hv c hf he ih =>
  intro m' h
  rw [fh,if_pos hv,hf] at h
  simp only [if_pos he] at h
  obtain ⟨a1,a2⟩:=ih m' h
  refine ⟨a1,fun f hb y hy=>?_⟩
  rcases aQ.1 hy with rfl | hy
  ·have e3:=gB hf
   simp only [beq_iff_eq] at e3
   rw [Fz (by omega),← e3,hb c (a1 c (bI hf)),he]
  ·exact a2 f hb y hy
 | case3 x r m hv c hf he =>
  intro m' h
  rw [fh,if_pos hv,hf] at h
  simp only [if_neg he] at h
  cases h
 | case4 x r m hv hf ih =>
  intro m' h
  rw [fh,if_pos hv,hf] at h
  simp only at h
  obtain ⟨a1,a2⟩:=ih m' h
  refine ⟨fun b hb=>a1 b (by simp [hb]),fun f hb y hy=>?_⟩
  rcases aQ.1 hy with rfl | hy
  ·have:=hb ⟨-1 - y.1.head,y.2⟩ (a1 _ (by simp))
   rw [Fz (by omega)];exact this
  ·exact a2 f hb y hy
 | case5 x r m hv hc =>
  intro m' h
  rw [fh,if_neg hv,if_pos hc] at h
  cases h
 | case6 x r m hv hc ih =>
  intro m' h
  rw [fh,if_neg hv,if_neg hc] at h
  obtain ⟨a1,a2⟩:=ih m' h
  refine ⟨a1,fun f hb y hy=>?_⟩
  rcases aQ.1 hy with rfl | hy
  ·have e1:y.1.head=y.2.head:=jy fun hn=>hc (.inl hn)
   have e2:y.1.args.length=y.2.args.length:=jy fun hn=>hc (.inr hn)
   rw [Ee (by omega),Qk (Tm.ap f) _ _ e2 fun p hp=>a2 f hb p (gC _ (cO.2 hp))]
   exact Jl e1 rfl
  ·exact a2 f hb y (lh _ hy)
theorem Ypm {Q:Tm→Prop} (hQ:∀ t,Q t→∀ u∈t.args,Q u):∀ (S:List (Tm×Tm)) (m m':List Bd),fh S m=some m'→(∀ x∈S,x.1.good=true∧Q x.2)→(∀ b∈m,(0≤b.v∧b.v≤255)∧Q b.t)→∀ b∈m',(0≤b.v∧b.v≤255)∧Q b.t:=by
 intro S m
 induction S,m using fh.induct with
 | case1 m =>
  intro m' h _ h2
  rw [fh] at h
  cases h
  exact h2
 | case2 x r m hv c hf he ih =>
  intro m' h h1 h2
  rw [fh,if_pos hv,hf] at h
  simp only [if_pos he] at h
  exact ih m' h (fun y hy=>h1 y (by simp [hy])) h2
 | case3 x r m hv c hf he =>
  intro m' h
  rw [fh,if_pos hv,hf] at h
  simp only [if_neg he] at h
  cases h
 | case4 x r m hv hf ih =>
  intro m' h h1 h2
  rw [fh,if_pos hv,hf] at h
  simp only at h
  obtain ⟨g1,g2⟩:=h1 x (by simp)
  have gh:=zH g1
  exact ih m' h (fun y hy=>h1 y (by simp [hy])) fun b hb=>by
   rcases aW.1 hb with hb | hb
   ·exact h2 b hb
   ·rw [aN.1 hb];exact ⟨⟨hv,by simp only;omega⟩,g2⟩
 | case5 x r m hv hc =>
  intro m' h
  rw [fh,if_neg hv,if_pos hc] at h
  cases h
 | case6 x r m hv hc ih =>
  intro m' h h1 h2
  rw [fh,if_neg hv,if_neg hc] at h
  obtain ⟨g1,g2⟩:=h1 x (by simp)
  refine ih m' h (fun y hy=>?_) h2
  rcases aW.1 hy with hy | hy
  ·have hy:=cW (cO.1 hy)
   exact ⟨w8 g1 _ hy.1,hQ _ g2 _ hy.2⟩
  ·exact h1 y (by simp [hy])
mutual
theorem R2 {f:Int→Tm}:∀ (t u:Tm) (s:List Bd),t.ap f=u→(∀ b∈s,f b.v=b.t)→(jX t u s).2=true∧∀ b∈(jX t u s).1,f b.v=b.t
 | .mk h ts,u,s,he,hs=>by
  rw [jX]
  rw [Tm.ap] at he
  by_cases hn:h<0
  ·rw [if_pos hn] at he ⊢
   cases hf:s.find? (fun b=>b.v == -1 - h) with
   | some b =>
    have e1:=hs b (bI hf)
    have e3:=gB hf
    simp only [beq_iff_eq] at e3
    simp only
    refine ⟨?_,hs⟩
    rw [decide_eq_true_eq,← e1,e3,he]
   | none =>
    simp only
    refine ⟨trivial,fun b hb=>?_⟩
    rcases aW.1 hb with hb | hb
    ·exact hs b hb
    ·rw [aN.1 hb];exact he
  ·rw [if_neg hn] at he ⊢
   subst he
   rw [if_neg (show ¬ (h≠(Tm.mk h (Tm.sU f ts)).head∨ts.length≠(Tm.mk h (Tm.sU f ts)).args.length) from by simp [Tm.head,Tm.args,Fi])]
   exact Q9 ts _ s (by rw [← Fi];rfl) hs
theorem Q9 {f:Int→Tm}:∀ (ts us:List Tm) (s:List Bd),ts.map (Tm.ap f)=us→(∀ b∈s,f b.v=b.t)→(gS ts us s).2=true∧∀ b∈(gS ts us s).1,f b.v=b.t
 | [],_,s,_,hs=>by rw [gS];exact ⟨rfl,hs⟩
 | t :: ts,[],s,he,_=>by simp at he
 | t :: ts,u :: us,s,he,hs=>by
  rw [aF] at he
  injection he with h1 h2
  obtain ⟨a1,a2⟩:=R2 t u s h1 hs
  rw [gS,if_pos a1]
  exact Q9 ts us _ h2 a2
end
mutual
theorem JX:∀ (t u:Tm) (s:List Bd),(jX t u s).2=true→(∀ b∈s,b∈(jX t u s).1)∧∀ f:Int→Tm,(∀ b∈(jX t u s).1,f b.v=b.t)→t.ap f=u
 | .mk h ts,u,s,he=>by
  rw [jX] at he ⊢
  by_cases hn:h<0
  ·rw [if_pos hn] at he ⊢
   cases hf:s.find? (fun b=>b.v == -1 - h) with
   | some b =>
    rw [hf] at he
    simp only [decide_eq_true_eq] at he ⊢
    refine ⟨fun _ h=>h,fun f hb=>?_⟩
    have e3:=gB hf
    simp only [beq_iff_eq] at e3
    rw [Tm.ap,if_pos hn,← e3,hb b (bI hf),he]
   | none =>
    simp only
    refine ⟨fun b hb=>by simp [hb],fun f hb=>?_⟩
    rw [Tm.ap,if_pos hn]
    exact hb ⟨-1 - h,u⟩ (by simp)
  ·rw [if_neg hn] at he ⊢
   by_cases hc:h≠u.head∨ts.length≠u.args.length
   ·rw [if_pos hc] at he;cases he
   ·rw [if_neg hc] at he ⊢
    have e1:h=u.head:=jy fun hn=>hc (.inl hn)
    have e2:ts.length=u.args.length:=jy fun hn=>hc (.inr hn)
    obtain ⟨a1,a2⟩:=Qi ts u.args s e2 he
    refine ⟨a1,fun f hb=>?_⟩
    rw [Tm.ap,if_neg hn,Fi,a2 f hb]
    exact Jl e1 rfl
theorem Qi:∀ (ts us:List Tm) (s:List Bd),ts.length=us.length→(gS ts us s).2=true→(∀ b∈s,b∈(gS ts us s).1)∧∀ f:Int→Tm,(∀ b∈(gS ts us s).1,f b.v=b.t)→ts.map (Tm.ap f)=us
 | [],[],s,_,_=>by rw [gS];exact ⟨fun _ h=>h,fun _ _=>rfl⟩
 | t :: ts,u :: us,s,hl,he=>by
  rw [gS] at he ⊢
  by_cases hg:(jX t u s).2=true
  ·rw [if_pos hg] at he ⊢
   obtain ⟨a1,a2⟩:=JX t u s hg
   obtain ⟨b1,b2⟩:=Qi ts us _ (by simpa using hl) he
   refine ⟨fun b hb=>b1 b (a1 b hb),fun f hb=>?_⟩
   rw [aF,b2 f hb,a2 f fun b hx=>hb b (b1 b hx)]
  ·rw [if_neg hg] at he;cases he
end
mutual
theorem Lv:∀ (t u:Tm) (s:List Bd),(s.map Bd.v).Nodup→((jX t u s).1.map Bd.v).Nodup
 | .mk h ts,u,s,hs=>by
  rw [jX]
  split
  ·split
   ·exact hs
   ·rename_i hf
    rw [cL,gD]
    refine ⟨hs,by simp,fun u hu w hw=>?_⟩
    simp only [aF,aS,aN] at hw
    subst hw
    obtain ⟨b,hb,rfl⟩:=cn.1 hu
    intro e
    exact absurd (by simpa using e) (j_.1 hf b hb)
  ·split
   ·exact hs
   ·exact Tl ts u.args s hs
theorem Tl:∀ (ts us:List Tm) (s:List Bd),(s.map Bd.v).Nodup→((gS ts us s).1.map Bd.v).Nodup
 | [],_,s,hs=>by rw [gS];exact hs
 | _ :: _,[],s,hs=>by rw [gS];exact hs
 | t :: ts,u :: us,s,hs=>by
  rw [gS]
  split
  ·exact Tl ts us _ (Lv t u s hs)
  ·exact hs
end
theorem LH:∀ l:List Bd,(l.map Bd.v).Nodup→∀ b∈l,l.find? (fun c=>c.v==b.v)=some b
 | c :: l,h,b,hb=>by
  rw [aF,eQ] at h
  rw [j7]
  rcases aQ.1 hb with rfl | hb
  ·simp
  ·have eg:¬ c.v=b.v:=fun e=>h.1 (by rw [e];exact cn.2 ⟨b,hb,rfl⟩)
   rw [show (c.v==b.v)=false from by simp [eg]]
   exact LH l h.2 b hb
theorem Ykp {l:List Bd} (h:(l.map Bd.v).Nodup) (v:Int):l.reverse.find? (fun c=>c.v==v)=l.find? (fun c=>c.v==v):=by
 cases hf:l.find? (fun c=>c.v==v) with
 | some b =>
  have e3:=gB hf
  simp only [beq_iff_eq] at e3
  have:=LH l.reverse (by rw [List.map_reverse];exact (List.reverse_perm _).nodup_iff.2 h) b (cO.2 (bI hf))
  rwa [e3] at this
 | none =>
  rw [j_] at hf ⊢
  exact fun x hx=>hf x (cO.1 hx)
theorem Yqt {l:List Bd} (h:(l.map Bd.v).Nodup) (v:Int):nV l.reverse v=nV l v:=by
 unfold nV;rw [Ykp h]
theorem Lr {l:List Bd} (h:(l.map Bd.v).Nodup):∀ b∈l,nV l b.v=b.t:=fun b hb=>by
 unfold nV;rw [LH l h b hb];rfl
theorem Ip {k:Int→Option Bd} (hk:∀ w b,k w=some b→b.v=w) (v:Int):∀ L:List Int,(L.filterMap k).find? (fun c=>c.v==v)=if v∈L then k v else none
 | []=>by simp
 | w :: L=>by
  rw [List.filterMap_cons]
  cases hw:k w with
  | none =>
   simp only
   rw [Ip hk v L]
   by_cases e:v=w
   ·subst e;rw [hw];simp
   ·simp [aQ,e]
  | some b =>
   simp only
   rw [j7,Ip hk v L,hk w b hw]
   by_cases e:w=v
   ·subst e;simp [hw]
   ·rw [show (w==v)=false from by simp [e]]
    simp [aQ,fY e]
theorem Pk {t:Tm} {v:Int} (hg:t.good=true) (h0 : 0≤v) (h:t.head = -1 - v):t = .mk (-1 - v) []:=by
 have:=(zH hg).2.2.2 (by omega)
 cases t;simp only [Tm.head,Tm.args] at h this;rw [h,this]
def kP (m:List Bd) (v:Int):Option Bd:=match m.find? (fun c=>c.v==v) with | some c=>if c.t.head = -1 - v then none else some ⟨v,c.t⟩ | none=>none
theorem GR (m:List Bd) (w:Int) (b:Bd) (h:kP m w=some b):b.v=w:=by
 unfold kP at h
 split at h
 ·split at h
  ·cases h
  ·cases h;rfl
 ·cases h
theorem K8 (m:List Bd) (ks:List Int):iU m ks=ks.filterMap (kP m):=rfl
theorem X7 {m:List Bd} {ks:List Int} (MN:∀ b∈m,b.v∈ks) (hv:∀ b∈m,0≤b.v∧b.t.good=true) (v:Int):nV (iU m ks) v=nV m v:=by
 rw [K8]
 unfold nV
 rw [Ip (GR m)]
 unfold kP
 cases hf:m.find? (fun c=>c.v==v) with
 | none=>simp
 | some c =>
  have hc:=bI hf
  have e3:=gB hf
  simp only [beq_iff_eq] at e3
  rw [if_pos (by rw [← e3];exact MN c hc)]
  simp only
  by_cases e:c.t.head = -1 - v
  ·rw [if_pos e]
   exact (Pk (hv c hc).2 (by rw [← e3];exact (hv c hc).1) e).symm
  ·rw [if_neg e];rfl
def kD (s:List Bd) (v:Int):Option Bd:=if (nV s v).head = -1 - v then none else some ⟨v,nV s v⟩
theorem NG (s:List Bd) (w:Int) (b:Bd) (h:kD s w=some b):b.v=w:=by
 unfold kD at h
 split at h
 ·cases h
 ·cases h;rfl
theorem Ymf (s:List Bd):ur s=((List.range 256).map fun n:Nat=>(n:Int)).filterMap (kD s):=by
 unfold ur BS
 rw [List.filterMap_map];rfl
theorem Sz {s:List Bd} (hg:∀ b∈s,b.t.good=true) {v:Int} (h0 : 0≤v) (h1:v≤255):nV (ur s) v=nV s v:=by
 rw [Ymf]
 have fp:v∈(List.range 256).map fun n:Nat=>(n:Int):=cn.2 ⟨v.toNat,cu.2 (by omega),by omega⟩
 have e:nV (((List.range 256).map fun n:Nat=>(n:Int)).filterMap (kD s)) v=((kD s v).map Bd.t).getD (.mk (-1 - v) []):=by
  conv=>lhs;unfold nV
  rw [Ip (NG s),if_pos fp]
 rw [e]
 unfold kD
 by_cases c:(nV s v).head = -1 - v
 ·rw [if_pos c]
  have vd:(nV s v).good=true:=Yqd (P:=fun t=>t.good=true) hg (by
   simp only [Tm.good,Tm.fT,aR,nZ,bT,cA,decide_eq_false_iff_not,eW]
   refine ⟨⟨⟨.inr (by omega),by omega⟩,by omega⟩,by omega⟩)
  exact (Pk vd h0 c).symm
 ·rw [if_neg c];rfl
theorem Lf {m:List Bd} (hm:∀ b∈m,(0≤b.v∧b.v≤255)∧b.t.check=0):∀ (ks:List Int) (a:Int),ks.Pairwise (· < ·)→(∀ v∈ks,a<v)→jk a (iU m ks)=0
 | [],_,_,_=>rfl
 | w :: ks,a,hp,ha=>by
  rw [List.pairwise_cons] at hp
  rw [K8,List.filterMap_cons,← K8]
  cases hw:kP m w with
  | none=>exact Lf hm ks a hp.2 fun v hv=>ha v (by simp [hv])
  | some b =>
   simp only
   have hbv:=GR m w b hw
   unfold kP at hw
   cases hf:m.find? (fun c=>c.v==w) with
   | none=>rw [hf] at hw;cases hw
   | some c =>
    rw [hf] at hw
    simp only at hw
    have e3:=gB hf
    simp only [beq_iff_eq] at e3
    have hc:=hm c (bI hf)
    by_cases e:c.t.head = -1 - w
    ·rw [if_pos e] at hw;cases hw
    ·rw [if_neg e] at hw
     cases hw
     have:=ha w (by simp)
     rw [jk,if_neg (by
      simp only
      rintro (h | h | h | h)
      ·omega
      ·omega
      ·exact h hc.2
      ·exact e h)]
     exact Lf hm ks w hp.2 hp.1
theorem Y8 {l:List Int} (h:l.Nodup):(fW l).Pairwise (· < ·):=by
 have ht:∀ x y z:Int,decide (x≤y)=true→decide (y≤z)=true→decide (x≤z)=true:=fun x y z h1 h2=>by simp at *;omega
 have hc:∀ x y:Int,(decide (x≤y)||decide (y≤x))=true:=fun x y=>by simp;omega
 have h1:(fW l).Pairwise fun x y=>decide (x≤y)=true:=List.pairwise_mergeSort ht hc l
 have h2:(fW l).Nodup:=(jG l _).nodup_iff.2 h
 refine (h1.and h2).imp fun {x y} h=>?_
 have h3:=h.1
 have h4:=h.2
 simp only [decide_eq_true_eq] at h3
 omega
theorem RD {l:List Int} {v:Int}:v∈fW l↔v∈l:=(jG l _).mem_iff
theorem TJ {t:Tm} (h:t.check=0):sO [t]=true:=by simp [sO,h]
theorem Ib {t:Tm} (h:t.check=0):iC [t]=false:=by simp [iC,h]
theorem Zyi:∀ t:Tm,t.check=0→∀ u∈t.args,u.check=0:=fun t h u hu=>by
 obtain ⟨c1,c2,c3⟩:=sm h
 have z1:=sT hu
 have z2:=ov t
 have z3:=Q0 hu
 exact TL (by omega) (by omega) (w8 c3 u hu)
theorem Pj (l u:Tm):(wH [l] [u]).2=(jX l u []).2∧((jX l u []).2=true→(wH [l] [u]).1=(jX l u []).1):=by
 have h:gS [l] [u] []=if (jX l u []).2=true then ((jX l u []).1,true) else ([],false):=by
  rw [gS];split
  ·rw [gS]
  ·rfl
 unfold wH
 rw [h]
 by_cases c:(jX l u []).2=true
 ·simp [c]
 ·simp [c]
theorem Ih {l u:Tm} (hl:l.check=0) (hu:u.check=0) (fl:l.fit) (fu:u.fit) :
  (gL [l] [u]).2.2=0∧(gH [l] [u]).2.2=0∧(gL [l] [u]).2.1=(gH [l] [u]).2.1∧((gH [l] [u]).2.1=true→jk (-1) (gH [l] [u]).1=0∧l.pd (gL [l] [u]).1=u∧∀ r:Tm,r.good=true→within r l=true→r.sub (gH [l] [u]).1.reverse=r.pd (gL [l] [u]).1):=by
 obtain ⟨l1,_,l3⟩:=sm hl
 obtain ⟨u1,_,u3⟩:=sm hu
 have eD:gL [l] [u]=if (jX l u []).2=false then ([],false,0) else (ur (wH [l] [u]).1,true,0):=by
  unfold gL
  rw [TJ hl,TJ hu,if_neg (by simp),(Pj l u).1]
 have eP:gH [l] [u]=match fh [(l,u)] [] with | none=>([],false,0) | some m=>(iU m (fW (m.map Bd.v)),true,0):=by
  unfold gH
  rw [Ib hl,Ib hu,if_neg (by simp)];rfl
 cases hg:fh [(l,u)] [] with
 | none =>
  rw [hg] at eP
  have:(jX l u []).2=false:=by
   cases hd:(jX l u []).2 with
   | false=>rfl
   | true =>
    obtain ⟨_,h2⟩:=JX l u [] hd
    have h3:=h2 _ (Lr (Lv l u [] (by simp)))
    obtain ⟨m',h4,_⟩:=UB (f:=nV (jX l u []).1) [(l,u)] [] (fun x hx=>by rw [aN.1 hx];exact h3) (fun b hb=>by cases hb)
    rw [hg] at h4;cases h4
  rw [if_pos this] at eD
  rw [eD,eP]
  exact ⟨rfl,rfl,rfl,fun h=>by cases h⟩
 | some m =>
  rw [hg] at eP
  simp only at eP
  have fQ:yP [(l,u)]:=fun x hx=>by rw [aN.1 hx];exact ⟨fl,fu,by simp only;omega⟩
  have oR:=(Ph _ _ _ hg fQ (fun b hb=>by cases hb) (by simp)).2.1
  have AA:=Ypm (Q:=fun t=>t.check=0) Zyi _ _ _ hg (fun x hx=>by rw [aN.1 hx];exact ⟨l3,hu⟩) (fun b hb=>by cases hb)
  have hs:=(XR _ _ _ hg).2 _ (Lr oR) (l,u) (by simp)
  simp only at hs
  obtain ⟨d1,d2⟩:=R2 l u [] hs (fun b hb=>by cases hb)
  rw [if_neg (by rw [d1];simp),(Pj l u).2 d1] at eD
  have ua:=(JX l u [] d1).2 _ (Lr (Lv l u [] (by simp)))
  have xQ:l.gU fun v=>nV m v=nV (jX l u []).1 v:=Jr l l3 (hs.trans ua.symm)
  have vU:∀ b∈(jX l u []).1,b.t.good=true:=To (P:=fun t=>t.good=true) (fun t h=>w8 h) l u [] u3 (fun b hb=>by cases hb)
  have hP:∀ v,nV (iU m (fW (m.map Bd.v))) v=nV m v:=X7 (fun b hb=>RD.2 (cn.2 ⟨b,hb,rfl⟩)) fun b hb=>⟨(AA b hb).1.1,(sm (AA b hb).2).2.2⟩
  have F2:jk (-1) (iU m (fW (m.map Bd.v)))=0:=Lf AA _ _ (Y8 oR) fun v hv=>by
   obtain ⟨b,hb,rfl⟩:=cn.1 (RD.1 hv)
   have:=(AA b hb).1
   omega
  have MY:=(JD _ _ F2).2
  have Eo:=XJ l l3
  rw [eD,eP]
  refine ⟨rfl,rfl,rfl,fun _=>⟨F2,?_,fun r hr hw=>?_⟩⟩
  ·rw [Cl]
   refine (Ia l ?_).trans ua
   rw [← DZ] at Eo ⊢
   exact fun v hv=>Sz vU (Eo v hv).1 (by have:=(Eo v hv).2;omega)
  ·rw [Pq _ _ hr,Cl]
   refine Ia r ?_
   rw [← DZ] at xQ Eo ⊢
   intro v hv
   have Nw:v∈l.vars:=by
    unfold within at hw
    exact of_decide_eq_true (bp.1 hw v hv)
   rw [Yqt MY,hP,xQ v Nw]
   exact (Sz vU (Eo v Nw).1 (by have:=(Eo v Nw).2;omega)).symm
theorem HB (g:List Sy) (t:Tm):nn g t=t.cx g:=by
 unfold nn Tm.cx lx
 by_cases h : 0≤t.head
 ·by_cases h2:t.head<(g.length:Int)
  ·have hk:t.head.toNat<g.length:=by omega
   simp [h,h2,hk,List.getD]
  ·have hk:¬ t.head.toNat<g.length:=by omega
   simp [h,h2,hk]
 ·simp [h]
theorem V8 {g:List Sy} (hs:fV g=true) {t:Tm} (h:t.head=0):t.cx g=true:=by
 have h1:=Zzg hs
 have h2:=(RA hs).1
 unfold isTrue at h1
 simp only [aD] at h1
 unfold Tm.cx lx
 rw [h]
 simp only [aD,decide_eq_true_eq]
 refine ⟨⟨qo _,by omega⟩,?_⟩
 have:g.getD (Int.toNat 0) Sy.tG=g.getD 0 Sy.tG:=rfl
 rw [this];exact h1.2.2.2
theorem Sh {g:List Sy} {x y:Tm} (hx:x.term g=0) (hy:y.term g=0):(pn x y).check g=0↔¬ ((x.cx g&&decide (y.head≠0))||(!x.cx g&&y.cx g))=true:=by
 unfold Li.check pn
 simp only
 rw [if_neg (fun h=>h hx),if_neg (fun h=>h hy)]
 split
 ·simp_all
 ·simp_all
theorem ZJ {g:List Sy} (hs:fV g=true) (l:Li):bd g [l]=l.check g:=by
 unfold bd
 rw [if_neg (by rw [hs];simp),if_neg (by simp),dA,dA]
 split
 ·rfl
 ·rename_i h;exact (Decidable.not_not.1 h).symm
theorem Tb {g:List Sy} {x y:Tm} (hs:fV g=true) (h0:x.cx g=true→x.head≠0) (h:bd g [pn y x]=0):bd g [pn x y]=0:=by
 obtain ⟨hy,hx⟩:=Jw h
 rw [ZJ hs] at h ⊢
 rw [Sh hy hx] at h
 rw [Sh hx hy]
 intro hn
 apply h
 simp only [bY,aD,decide_eq_true_eq,bT] at hn ⊢
 rcases hn with ⟨a,b⟩ | ⟨a,b⟩
 ·cases hyt:y.cx g with
  | true=>exact .inl ⟨rfl,h0 a⟩
  | false=>exact .inr ⟨rfl,a⟩
 ·refine .inl ⟨b,fun e=>?_⟩
  rw [V8 hs e] at a;cases a
theorem Yro {g:List Sy} {c:List Li} {u:Un} {t:Tm} {e:Li} {n:Int} (hc:j4 g c) (hl:jQ g u.l) (hr:jQ g u.r) (ht:jQ g t) (hb:fE u=false) (he:gI e n=(u.l,u.r)) :
  (wu g e n t c).2=(j5 g c u t).2∧((j5 g c u t).2=true→(wu g e n t c).1=(j5 g c u t).1):=by
 unfold fE at hb
 simp only [cA,decide_eq_false_iff_not,iw] at hb
 obtain ⟨qA,uH⟩:=hb
 have hs:=JK ht.1
 have gK:=(oH hl.1).1
 have Ei:=(oH ht.1).1
 have Gg:=(sm (oH hr.1).1).2.2
 obtain ⟨m1,m2,m3,m4⟩:=Ih gK Ei hl.2 ht.2
 unfold wu j5 nY
 rw [he]
 simp only
 rw [HB,HB]
 by_cases c1:u.l.cx g=t.cx g
 ·have n1:¬ (u.l.head=0∨u.l.cx g≠t.cx g∨within u.r u.l=false):=by
   rintro (h | h | h)
   ·exact qA h
   ·exact h c1
   ·rw [uH] at h;cases h
  have n2:¬ (u.l.cx g≠t.cx g):=fun h=>h c1
  rw [if_neg n1,if_neg n2]
  have e1:mT u t=gH [u.l] [t]:=rfl
  rw [e1]
  by_cases c2:(gH [u.l] [t]).2.1=true
  ·obtain ⟨k1,k2,k3⟩:=m4 c2
   have n3:¬ ((gL [u.l] [t]).2.2≠0∨(gL [u.l] [t]).2.1=false):=by rw [m1,m3,c2];simp
   have n4:¬ ((gH [u.l] [t]).2.2≠0∨(gH [u.l] [t]).2.1=false):=by rw [m2,c2];simp
   rw [if_neg n3,if_neg n4,k2]
   have k4:=k3 u.r Gg uH
   generalize hy:u.r.pd (gL [u.l] [t]).1=y
   rw [hy] at k4
   have ha:aT u t=if y.check=0 then (y,0) else (gT,y.check):=by
    unfold aT p7
    rw [e1,k4,if_neg]
    rintro (h | h)
    ·exact h k1
    ·exact h (oH hr.1).1
   by_cases c3:y.term g=0
   ·have AB:=(oH c3).1
    rw [if_pos AB] at ha
    have EB:jQ g y:=by
     have:=(Jt hr (qt ht)).1
     rw [ha] at this
     exact ⟨c3,this⟩
    have hk:kT g u t=(dQ g t y,0):=by
     unfold kT
     rw [ha]
     have:ez g [t,y]=0:=by rw [ez,if_pos ht.1,ez,if_pos c3,ez]
     simp only [this,if_true]
    have hq:qT g u t c=oK g [pn t y] c:=by unfold qT pn;rw [ha]
    rw [ha,hk,hq]
    simp only
    rw [if_neg (fun h:(0:Int)≠0=>h rfl)]
    by_cases c4:bd g [pn t y]=0
    ·rw [if_neg (fun h=>h.1 c4)]
     have BD:j4 g [pn t y]:=⟨c4,fun l hl=>by rw [aN.1 hl];exact ⟨ht.2,EB.2⟩⟩
     rw [Yrx BD hc]
     have fQ:=S_ ht EB
     by_cases c5:dQ g t y=1
     ·rw [c5] at fQ ⊢
      rw [← fQ]
      by_cases c6:uq g [pn t y] c = -1
      ·simp [c6]
      ·simp [c6]
     ·rw [show decide (dQ g t y=1)=false from by simp [c5]] at fQ
      rw [← fQ]
      simp [c5]
    ·have c7:bd g [pn y t]≠0:=fun h=>c4 (Tb hs (fun sF h0=>by
      rw [← c1] at sF
      have hh:¬ u.l.head<0:=by
       unfold Tm.cx at sF
       simp only [aD,decide_eq_true_eq] at sF
       omega
      rw [Cl,Ee hh] at k2
      rw [← k2] at h0
      exact qA h0) h)
     rw [if_pos ⟨c4,c7⟩]
     have:(oK g [pn t y] c).2≠0:=by unfold oK;rw [if_pos c4];exact c4
     by_cases c5:dQ g t y=1
     ·simp [c5,this]
     ·simp [c5]
   ·have c4:bd g [pn t y]≠0:=fun h=>c3 (Jw h).2
    have c7:bd g [pn y t]≠0:=fun h=>c3 (Jw h).1
    rw [if_pos ⟨c4,c7⟩]
    by_cases AB:y.check=0
    ·rw [if_pos AB] at ha
     have hk:(kT g u t).2≠0:=by
      unfold kT
      rw [ha]
      rw [ez,if_pos ht.1,ez,if_neg c3];exact c3
     rw [ha]
     simp [hk]
    ·rw [if_neg AB] at ha
     rw [ha]
     simp [AB]
  ·have n3:(gL [u.l] [t]).2.2≠0∨(gL [u.l] [t]).2.1=false:=.inr (by rw [m3];simpa using c2)
   have n4:(gH [u.l] [t]).2.2≠0∨(gH [u.l] [t]).2.1=false:=.inr (by simpa using c2)
   rw [if_pos n3,if_pos n4]
   exact ⟨rfl,fun h=>by cases h⟩
 ·have n1:u.l.head=0∨u.l.cx g≠t.cx g∨within u.r u.l=false:=.inr (.inl c1)
  rw [if_pos n1,if_pos (show u.l.cx g≠t.cx g from c1)]
  exact ⟨rfl,fun h=>by cases h⟩
theorem Yoy {g:List Sy} {es:List (List Li)} {c:List Li} (hw:cM g (c :: es)=0):wq g es c=fb g (cU es) c:=by
 unfold wq;exact if_neg (fun h=>h hw)
end Go.Proofs
namespace Go.Proofs
open Go Go.c8
attribute [local go_sem] Nat.reduceAdd Nat.reduceSub Nat.reduceMul Nat.reduceLeDiff Nat.reduceEqDiff Nat.reduceBEq Nat.reduceLT Nat.le_refl Int.natCast_zero Nat.sub_zero List.length_map Int.toNat_natCast Int.natCast_one Int.reduceEq Int.reduceLT Int.reduceLE Int.reduceNe Int.sub_zero Int.zero_add Int.toNat_one
end Go.Proofs
namespace Go.Proofs
open Go Go.c8
theorem PB (g:List Sy) (t:Tm):t.gr g t=false:=by
 rw [Ju,if_neg (fun h=>h rfl:¬ t.mn g≠t.mn g),if_neg (fun h=>h rfl:¬ t.head≠t.head),KS]
 repeat' split
 all_goals rfl
theorem KT {P:List Li→Prop} {S:List Li→List Li×Int×Bool×Int} (hP:∀ c,P c→(S c).2.2.2=0→(S c).2.2.1=true→P (S c).1):∀ (n:Nat) (c:List Li) (u:List Int),P c→(fg S n c u).2.2=0 →
  P (fg S n c u).1∧(S (fg S n c u).1).2.2.2=0∧(S (fg S n c u).1).2.2.1=false∧u.length≤(fg S n c u).2.1.length∧((S c).2.2.1=true→u.length<(fg S n c u).2.1.length)∧((S c).2.2.1=false→(fg S n c u).2.1=u)
 | 0,c,u,h,h0=>by rw [fg] at h0;cases h0
 | n+1,c,u,h,h0=>by
  rw [fg] at h0 ⊢
  by_cases h1:(S c).2.2.2=0
  ·rw [if_neg (fun k=>k h1)] at h0 ⊢
   by_cases h2:(S c).2.2.1=false
   ·rw [if_pos h2] at h0 ⊢
    exact ⟨h,h1,h2,ah _,fun k=>(by rw [h2] at k;cases k),fun _=>rfl⟩
   ·rw [if_neg h2] at h0 ⊢
    have uG:(S c).2.2.1=true:=by simpa using h2
    by_cases h3 : 200<u.length+1
    ·rw [if_pos h3] at h0;cases h0
    ·rw [if_neg h3] at h0 ⊢
     obtain ⟨a1,a2,a3,a4,_⟩:=KT hP n _ _ (hP c h h1 uG) h0
     rw [ay] at a4
     simp only [ax,aR] at a4
     exact ⟨a1,a2,a3,by omega,fun _=>by omega,fun k=>absurd k h2⟩
  ·rw [if_pos h1] at h0;exact absurd h0 h1
theorem KJ {g:List Sy} {es:List (List Li)} {c:List Li} (h:sG es c) (h0:(cz g es c).2.2=0):cM g (c :: es)=0∧j4 g (cz g es c).1∧cz g es (cz g es c).1=((cz g es c).1,[],0)∧decide (0<(cz g es c).2.1.length)=(wq g es c).2.2.1:=by
 have hw:cM g (c :: es)=0:=by
  by_cases hw:cM g (c :: es)=0
  ·exact hw
  ·unfold cz gq at h0
   rw [if_pos hw] at h0
   exact absurd h0 hw
 have hi:=Fy h hw
 have e1:cz g es c=fg (fb g (cU es)) 201 c []:=by unfold cz gq;exact if_neg (fun k=>k hw)
 have e2:wq g es c=fb g (cU es) c:=Yoy hw
 rw [e1] at h0
 obtain ⟨a1,a2,a3,a4,a5,a6⟩:=KT (P:=j4 g) (fun d hd k0 _=>Ub hi.2.1 hd k0) 201 c [] hi.1 h0
 rw [e1,e2]
 generalize hx:(fg (fb g (cU es)) 201 c []).1=x at *
 refine ⟨hw,a1,?_,?_⟩
 ·have rH:cM g (x :: es)=0:=by
   rw [cM,if_neg (fun k=>k a1.1)]
   rw [cM] at hw
   split at hw
   ·rename_i h3;exact absurd hw h3
   ·exact hw
  have e3:cz g es x=fg (fb g (cU es)) 201 x []:=by unfold cz gq;exact if_neg (fun k=>k rH)
  rw [e3,fg,if_neg (fun k=>k a2),if_pos a3]
 ·cases hb:(fb g (cU es) c).2.2.1 with
  | true=>rw [decide_eq_true_eq];exact Nat.lt_of_le_of_lt (av _) (a5 hb)
  | false=>rw [a6 hb];rfl
theorem J5 {p:Int→Prop}:∀ ts:List Tm,Tm.jc p ts↔∀ t∈ts,t.gU p
 | []=>by simp [Tm.jc]
 | t :: ts=>by rw [Tm.jc,J5 ts];simp
theorem Z7 {g:List Sy} {c:List Li} {u:Un} {t:Tm} (hl:jQ g u.l) (hr:jQ g u.r) (ht:jQ g t) (hb:fE u=false) (h:(j5 g c u t).2=true) :
  ∃ s:Int→Tm,u.l.ap s=t∧(j5 g c u t).1=u.r.ap s∧(u.l.head<0→t.cx g=false):=by
 unfold fE at hb
 simp only [cA,decide_eq_false_iff_not,iw] at hb
 obtain ⟨qA,uH⟩:=hb
 have gK:=(oH hl.1).1
 have Ei:=(oH ht.1).1
 have Gg:=(sm (oH hr.1).1).2.2
 obtain ⟨m1,m2,m3,m4⟩:=Ih gK Ei hl.2 ht.2
 unfold j5 nY at h ⊢
 split at h
 ·cases h
 split at h
 ·cases h
 split at h
 ·cases h
 split at h
 ·cases h
 rename_i c1 c2 c3 c4
 rw [if_neg c1,if_neg c2,if_neg c3,if_neg c4]
 simp only
 have e1:mT u t=gH [u.l] [t]:=rfl
 have c5:(gH [u.l] [t]).2.1=true:=by
  rw [e1] at c2
  cases hc:(gH [u.l] [t]).2.1 with
  | true=>rfl
  | false=>exact absurd (.inr hc) c2
 obtain ⟨k1,k2,k3⟩:=m4 c5
 have k4:=k3 u.r Gg uH
 rw [Cl] at k2 k4
 refine ⟨_,k2,?_,fun hn=>?_⟩
 ·generalize hy:u.r.ap (nV (gL [u.l] [t]).1)=y at *
  have ha:aT u t=if y.check=0 then (y,0) else (gT,y.check):=by
   unfold aT p7
   rw [e1,k4,if_neg]
   rintro (h | h)
   ·exact h k1
   ·exact h (oH hr.1).1
  by_cases AB:y.check=0
  ·rw [ha,if_pos AB]
  ·rw [ha,if_neg AB] at c3
   exact absurd AB c3
 ·rw [HB,HB] at c1
  rw [← Decidable.not_not.1 c1]
  have:decide (0≤u.l.head)=false:=by simp;omega
  unfold Tm.cx
  rw [this];rfl
def zY (p:Int→Prop) (c:List Li):Prop:=∀ l∈c,l.l.gU p∧l.r.gU p
def vr (v:Int):Tm:=.mk (-1 - v) []
def Tm.rn (r:Int→Int) (t:Tm):Tm:=t.ap fun v=>vr (r v)
structure lF (r:Int→Int) (p:Int→Prop):Prop where
 inj:∀ v w,p v→p w→r v=r w→v=w
 pos:∀ v,p v→0≤r v∧r v≤255
 non:∀ v,p v→0≤v
theorem Fx {r:Int→Int} {t:Tm} (h:t.head<0):t.rn r=vr (r (-1 - t.head)):=Fz h
theorem FB {r:Int→Int} {t:Tm} (h:¬ t.head<0):t.rn r = .mk t.head (t.args.map (Tm.rn r)):=Ee h
theorem y6 {r:Int→Int} {t:Tm} (h:¬ t.head<0):(t.rn r).head=t.head∧(t.rn r).args=t.args.map (Tm.rn r):=by rw [FB h];exact ⟨rfl,rfl⟩
theorem Hq {t:Tm} (hg:t.good=true) (h:t.head<0):t.args=[]:=by
 have:=(zH hg).2.2.2
 exact this h
theorem HM {p:Int→Prop} {t:Tm} (h:t.gU p) (hn:t.head<0):p (-1 - t.head):=by
 cases t;rw [Tm.gU] at h;exact h.1 hn
theorem HU {p:Int→Prop} {t:Tm} (h:t.gU p):∀ u∈t.args,u.gU p:=by
 cases t;rw [Tm.gU,J5] at h;exact h.2
section
variable {r:Int→Int} {p:Int→Prop}
theorem ET (hr:lF r p) {t:Tm} (hv:t.gU p):(t.rn r).head<0↔t.head<0:=by
 by_cases h:t.head<0
 ·rw [Fx h]
  have:=(hr.pos _ (HM hv h)).1
  have e:(vr (r (-1 - t.head))).head = -1 - r (-1 - t.head):=rfl
  rw [e]
  constructor
  ·intro _;exact h
  ·intro _;omega
 ·rw [(y6 h).1]
mutual
theorem Pz (hr:lF r p):∀ (t u:Tm),t.good=true→u.good=true→t.gU p→u.gU p→t.rn r=u.rn r→t=u
 | .mk h ts, .mk k us,gt,gu,vt,vu,e=>by
  by_cases h1:h<0
  ·by_cases h2:k<0
   ·rw [Fx (t:=.mk h ts) h1,Fx (t:=.mk k us) h2] at e
    injection e with e _
    have:=hr.inj _ _ (HM vt h1) (HM vu h2) (by simp only [Tm.head] at e ⊢;omega)
    have a1:=Hq gt h1
    have a2:=Hq gu h2
    simp only [Tm.args,Tm.head] at a1 a2 this
    rw [a1,a2,show h=k by omega]
   ·have:=congrArg Tm.head e
    rw [(y6 (t:=.mk k us) h2).1] at this
    have h3:=(ET hr vt).2 h1
    rw [this] at h3
    exact absurd h3 h2
  ·by_cases h2:k<0
   ·have:=congrArg Tm.head e
    rw [(y6 (t:=.mk h ts) h1).1] at this
    have h3:=(ET hr vu).2 h2
    rw [← this] at h3
    exact absurd h3 h1
   ·rw [FB (t:=.mk h ts) h1,FB (t:=.mk k us) h2] at e
    injection e with e1 e2
    simp only [Tm.head,Tm.args] at e1 e2
    have ga:=w8 gt
    have gb:=w8 gu
    have va:=HU vt
    have vb:=HU vu
    simp only [Tm.args] at ga gb va vb
    rw [e1,OA hr ts us ga gb va vb e2]
theorem OA (hr:lF r p):∀ (ts us:List Tm),(∀ t∈ts,t.good=true)→(∀ t∈us,t.good=true)→(∀ t∈ts,t.gU p)→(∀ t∈us,t.gU p)→ts.map (Tm.rn r)=us.map (Tm.rn r)→ts=us
 | [],[],_,_,_,_,_=>rfl
 | [],_ :: _,_,_,_,_,e=>by cases e
 | _ :: _,[],_,_,_,_,e=>by cases e
 | t :: ts,u :: us,g1,g2,v1,v2,e=>by
  rw [aF,aF] at e
  injection e with e1 e2
  rw [Pz hr t u (g1 t (by simp)) (g2 u (by simp)) (v1 t (by simp)) (v2 u (by simp)) e1,OA hr ts us (fun x hx=>g1 x (by simp [hx])) (fun x hx=>g2 x (by simp [hx])) (fun x hx=>v1 x (by simp [hx])) (fun x hx=>v2 x (by simp [hx])) e2]
end
theorem KD (hr:lF r p) (g:List Sy):∀ t:Tm,t.gU p→(t.rn r).cx g=t.cx g:=fun t hv=>by
 by_cases h1:t.head<0
 ·have h2:=(ET hr hv).2 h1
  have e1:decide (0≤(t.rn r).head)=false:=by simp;omega
  have e2:decide (0≤t.head)=false:=by simp;omega
  unfold Tm.cx
  rw [e1,e2];rfl
 ·unfold Tm.cx
  rw [(y6 h1).1]
mutual
theorem E9 (hr:lF r p) (g:List Sy):∀ t:Tm,t.good=true→t.gU p→(t.rn r).size=t.size∧(t.rn r).depth=t.depth∧(t.rn r).good=true∧(t.rn r).known g=t.known g∧(t.rn r).jm g=t.jm g∧(t.rn r).mn g=t.mn g∧(t.rn r).fit
 | .mk h ts,hg,hv=>by
  by_cases h1:h<0
  ·rw [Fx (t:=.mk h ts) h1]
   have a1:=Hq hg h1
   simp only [Tm.args,Tm.head] at a1
   subst a1
   have hp:=hr.pos _ (HM hv h1)
   simp only [Tm.head] at hp ⊢
   have h2 : -1 - r (-1 - h)<0:=by omega
   refine ⟨rfl,rfl,?_,?_,rfl,?_,?_⟩
   ·simp only [vr,Tm.good,Tm.fT,aR,nZ,bT,cA,decide_eq_false_iff_not,eW]
    exact ⟨⟨⟨.inr (by omega),by omega⟩,by omega⟩,by omega⟩
   ·simp only [vr,Tm.known,decide_eq_true h2,decide_eq_true h1,fH]
   ·simp only [vr,Tm.mn];rw [if_pos h2,if_pos h1]
   ·exact ⟨by unfold n5;omega,trivial⟩
  ·have Bu:=w8 hg
   have Ex:=HU hv
   simp only [Tm.args] at Bu Ex
   obtain ⟨b1,b2,b3,b4,b5,b6,b7⟩:=RX hr g ts Bu Ex
   have hh:=zH hg
   rw [FB (t:=.mk h ts) h1]
   simp only [Tm.head,Tm.args] at hh ⊢
   refine ⟨?_,?_,?_,?_,?_,?_,?_⟩
   ·rw [Tm.size,Tm.size,b1]
   ·rw [Tm.depth,Tm.depth,b2]
   ·rw [Tm.good] at hg ⊢
    rw [ak,b3]
    simp only [aD] at hg ⊢
    exact ⟨hg.1,trivial⟩
   ·rw [Tm.known,Tm.known,ak,b4]
   ·rw [Tm.jm,Tm.jm,b5]
   ·rw [Tm.mn,Tm.mn,if_neg h1,if_neg h1,b6]
   ·refine ⟨?_,b7⟩
    have:=hh
    unfold n5;omega
theorem RX (hr:lF r p) (g:List Sy):∀ ts:List Tm,(∀ t∈ts,t.good=true)→(∀ t∈ts,t.gU p)→Tm.bF (ts.map (Tm.rn r))=Tm.bF ts∧Tm.iy (ts.map (Tm.rn r))=Tm.iy ts∧Tm.fT (ts.map (Tm.rn r))=true∧Tm.gN g (ts.map (Tm.rn r))=Tm.gN g ts∧Tm.jn g (ts.map (Tm.rn r))=Tm.jn g ts∧(∀ n,Tm.pL g (ts.map (Tm.rn r)) n=Tm.pL g ts n)∧Tm.fits (ts.map (Tm.rn r))
 | [],_,_=>⟨rfl,rfl,rfl,rfl,rfl,fun _=>rfl,trivial⟩
 | t :: ts,hg,hv=>by
  obtain ⟨a1,a2,a3,a4,a5,a6,a7⟩:=E9 hr g t (hg t (by simp)) (hv t (by simp))
  obtain ⟨b1,b2,b3,b4,b5,b6,b7⟩:=RX hr g ts (fun x hx=>hg x (by simp [hx])) (fun x hx=>hv x (by simp [hx]))
  have sF:=KD hr g t (hv t (by simp))
  rw [aF]
  refine ⟨?_,?_,?_,?_,?_,fun n=>?_,a7,b7⟩
  ·rw [Tm.bF,Tm.bF,a1,b1]
  ·rw [Tm.iy,Tm.iy,a2,b2]
  ·rw [Tm.fT,a3,b3];rfl
  ·rw [Tm.gN,Tm.gN,a4,b4]
  ·rw [Tm.jn,Tm.jn,a5,b5,sF]
  ·rw [Tm.pL,Tm.pL,a6,b6]
end
end
theorem Xn {l u:Tm} (hl:l.check=0) (hu:u.check=0) (fl:l.fit) (fu:u.fit):(gH [l] [u]).2.1=true↔∃ s:Int→Tm,l.ap s=u:=by
 obtain ⟨_,_,_,m4⟩:=Ih hl hu fl fu
 constructor
 ·intro h
  have:=(m4 h).2.1
  rw [Cl] at this
  exact ⟨_,this⟩
 ·rintro ⟨s,h⟩
  obtain ⟨m',h4,_⟩:=UB (f:=s) [(l,u)] [] (fun x hx=>by rw [aN.1 hx];exact h) (fun b hb=>by cases hb)
  unfold gH
  rw [Ib hl,Ib hu,if_neg (by simp)]
  have e:(List.zip [l] [u]).reverse=[(l,u)]:=rfl
  rw [e,h4]
theorem Yt0 {s k:Int→Tm} {l r:Tm} (hl:l.good=true) (hw:within r l=true) (h:l.ap s=l.ap k):r.ap s=r.ap k:=by
 have h1:=Jr l hl h
 refine Ia r ?_
 rw [← DZ] at h1 ⊢
 intro v hv
 unfold within at hw
 exact h1 v (of_decide_eq_true (bp.1 hw v hv))
def Bh (g:List Sy) (c:List Li) (t y:Tm):Prop:=bd g [pn t y]=0∧t.gr g y=true∧uq g [pn t y] c = -1
theorem Rh {g:List Sy} {c:List Li} {u:Un} {t:Tm} (hc:j4 g c) (hl:jQ g u.l) (hr:jQ g u.r) (ht:jQ g t) (hb:fE u=false) (s:Int→Tm) :
  (u.l.ap s=t∧u.l.cx g=t.cx g∧Bh g c t (u.r.ap s))↔(u.l.ap s=t∧j5 g c u t=(u.r.ap s,true)):=by
 have xl:=hb
 unfold fE at hb
 simp only [cA,decide_eq_false_iff_not,iw] at hb
 obtain ⟨qA,uH⟩:=hb
 have gK:=(oH hl.1).1
 have Ei:=(oH ht.1).1
 have lT:=(sm gK).2.2
 have hs:=JK ht.1
 obtain ⟨m1,m2,m3,m4⟩:=Ih gK Ei hl.2 ht.2
 obtain ⟨e1,e2⟩:=Yro (e:=⟨false,u.l,u.r⟩) (n:=0) hc hl hr ht xl rfl
 have hD:wu g ⟨false,u.l,u.r⟩ 0 t c=if u.l.head=0∨u.l.cx g≠t.cx g∨within u.r u.l=false then (t,false) else
   if (gL [u.l] [t]).2.2≠0∨(gL [u.l] [t]).2.1=false then (t,false) else
   if bd g [pn (u.l.pd (gL [u.l] [t]).1) (u.r.pd (gL [u.l] [t]).1)]≠0∧bd g [pn (u.r.pd (gL [u.l] [t]).1) (u.l.pd (gL [u.l] [t]).1)]≠0 then (t,false) else
   if (u.l.pd (gL [u.l] [t]).1).gr g (u.r.pd (gL [u.l] [t]).1)=false∨uq g [pn (u.l.pd (gL [u.l] [t]).1) (u.r.pd (gL [u.l] [t]).1)] c≠-1 then (t,false) else (u.r.pd (gL [u.l] [t]).1,true):=rfl
 rw [hD] at e1 e2
 refine and_congr_right fun xS=>?_
 have hM:=(Xn gK Ei hl.2 ht.2).2 ⟨s,xS⟩
 obtain ⟨k1,k2,_⟩:=m4 hM
 have k3:u.r.pd (gL [u.l] [t]).1=u.r.ap s:=by
  rw [Cl] at k2 ⊢
  exact Yt0 lT uH (k2.trans xS.symm)
 rw [k2,k3] at e1 e2
 generalize u.r.ap s=y at *
 have n3:¬ ((gL [u.l] [t]).2.2≠0∨(gL [u.l] [t]).2.1=false):=by rw [m1,m3,hM];simp
 by_cases c1:u.l.cx g=t.cx g
 ·have n1:¬ (u.l.head=0∨u.l.cx g≠t.cx g∨within u.r u.l=false):=by
   rintro (h | h | h)
   ·exact qA h
   ·exact h c1
   ·rw [uH] at h;cases h
  rw [if_neg n1,if_neg n3] at e1 e2
  have hh:t.cx g=true→t.head≠0:=fun sF h0=>by
   rw [← c1] at sF
   have hh:¬ u.l.head<0:=by
    unfold Tm.cx at sF
    simp only [aD,decide_eq_true_eq] at sF
    omega
   rw [← xS,Ee hh] at h0
   exact qA h0
  by_cases c2:bd g [pn t y]=0
  ·rw [if_neg (fun h=>h.1 c2)] at e1 e2
   constructor
   ·rintro ⟨_,_,a2,a3⟩
    have n4:¬ (t.gr g y=false∨uq g [pn t y] c≠-1):=by
     rintro (h | h)
     ·rw [a2] at h;cases h
     ·exact h a3
    rw [if_neg n4] at e1 e2
    have e3:=e2 e1.symm
    exact Prod.ext e3.symm e1.symm
   ·intro h
    rw [h] at e1
    simp only at e1
    split at e1
    ·cases e1
    ·rename_i n4
     refine ⟨c1,c2,?_,?_⟩
     ·cases hg:t.gr g y with
      | true=>rfl
      | false=>exact absurd (.inl hg) n4
     ·by_cases h3:uq g [pn t y] c = -1
      ·exact h3
      ·exact absurd (.inr h3) n4
  ·have c3:bd g [pn y t]≠0:=fun h=>c2 (Tb hs hh h)
   rw [if_pos ⟨c2,c3⟩] at e1 e2
   constructor
   ·rintro ⟨_,a1,_⟩;exact absurd a1 c2
   ·intro h;rw [h] at e1;cases e1
 ·have n1:u.l.head=0∨u.l.cx g≠t.cx g∨within u.r u.l=false:=.inr (.inl c1)
  rw [if_pos n1] at e1
  constructor
  ·rintro ⟨h,_⟩;exact absurd h c1
  ·intro h;rw [h] at e1;cases e1
theorem R1 {g:List Sy} {c:List Li} {u:Un} {t:Tm} (hc:j4 g c) (hl:jQ g u.l) (hr:jQ g u.r) (ht:jQ g t) (hb:fE u=false):(j5 g c u t).2=true↔∃ s:Int→Tm,u.l.ap s=t∧u.l.cx g=t.cx g∧Bh g c t (u.r.ap s):=by
 constructor
 ·intro h
  obtain ⟨s,h1,h2,_⟩:=Z7 hl hr ht hb h
  exact ⟨s,(Rh hc hl hr ht hb s).2 ⟨h1,Prod.ext h2 h⟩⟩
 ·rintro ⟨s,h⟩
  rw [((Rh hc hl hr ht hb s).1 h).2]
section
variable {α:Type} {same gt : α→α→Bool} {P : α→Prop} {f : α→α}
end
def Li.rn (r:Int→Int) (l:Li):Li:=⟨l.neg,l.l.rn r,l.r.rn r⟩
def tb (r:Int→Int) (c:List Li):List Li:=c.map (Li.rn r)
def xr (p:Int→Prop) (t:Tm):Prop:=t.good=true∧t.gU p
def uj (p:Int→Prop) (l:Li):Prop:=xr p l.l∧xr p l.r
section
variable {r:Int→Int} {p:Int→Prop}
theorem ZD (hr:lF r p) {t:Tm} (h:xr p t):(t.rn r).check=t.check:=by
 obtain ⟨a1,a2,a3,_⟩:=E9 hr [] t h.1 h.2
 unfold Tm.check
 rw [a1,a2,a3,h.1]
theorem OC (hr:lF r p) (g:List Sy) {t:Tm} (h:xr p t):(t.rn r).term g=t.term g:=by
 obtain ⟨_,_,_,a4,a5,_⟩:=E9 hr g t h.1 h.2
 unfold Tm.term
 rw [ZD hr h,a4,a5]
theorem K9 (hr:lF r p) {t:Tm} (h:xr p t):(t.rn r).head=0↔t.head=0:=by
 by_cases h1:t.head<0
 ·have:=(ET hr h.2).2 h1
  constructor<;>intro<;>omega
 ·rw [(y6 h1).1]
theorem Yzn (hr:lF r p) (g:List Sy) {l:Li} (h:uj p l):(l.rn r).check g=l.check g:=by
 unfold Li.check Li.rn
 simp only [OC hr g h.1,OC hr g h.2,KD hr g _ h.1.2,KD hr g _ h.2.2,K9 hr h.2,ne_eq]
theorem Oo (hr:lF r p) (g:List Sy):∀ {c:List Li},(∀ l∈c,uj p l)→dA g (tb r c)=dA g c
 | [],_=>rfl
 | l :: c,h=>by
  rw [show tb r (l :: c)=l.rn r :: tb r c from rfl,dA,dA,Yzn hr g (h l (by simp)),Oo hr g fun x hx=>h x (by simp [hx])]
theorem Yk (hr:lF r p) (g:List Sy) {c:List Li} (h:∀ l∈c,uj p l):bd g (tb r c)=bd g c:=by
 unfold bd
 rw [Oo hr g h]
 simp [tb]
theorem OS {g:List Sy} {c:List Li} (h:j4 g c) (hp:zY p c):∀ l∈c,uj p l:=fun l hl=>by
 obtain ⟨a1,a2⟩:=uE h hl
 exact ⟨⟨(sm (oH a1.1).1).2.2,(hp l hl).1⟩,(sm (oH a2.1).1).2.2,(hp l hl).2⟩
theorem Yst (hr:lF r p) {g:List Sy} {c:List Li} (h:j4 g c) (hp:zY p c):j4 g (tb r c):=by
 have hk:=OS h hp
 refine ⟨by rw [Yk hr g hk];exact h.1,fun l hl=>?_⟩
 obtain ⟨x,hx,rfl⟩:=cn.1 hl
 exact ⟨(E9 hr g _ (hk x hx).1.1 (hk x hx).1.2).2.2.2.2.2.2,(E9 hr g _ (hk x hx).2.1 (hk x hx).2.2).2.2.2.2.2.2⟩
end
theorem Yu6 (g:List Sy) (t u:Tm):t.gr g u=true↔gw t u=true∧(u.mn g<t.mn g∨(t.mn g=u.mn g∧0≤t.head∧0≤u.head∧(u.head<t.head∨(t.head=u.head∧Tm.rD g t.args u.args=true)))):=by
 rw [Ju]
 cases h1:gw t u with
 | false=>simp
 | true =>
  rw [if_neg (by simp)]
  by_cases h2:t.mn g=u.mn g
  ·rw [if_neg (fun k=>k h2)]
   by_cases h3:t.head<0∨u.head<0
   ·rw [if_pos h3]
    constructor
    ·intro h;cases h
    ·rintro ⟨_,h | h⟩
     ·omega
     ·omega
   ·rw [if_neg h3]
    by_cases h4:t.head=u.head
    ·rw [if_neg (fun k=>k h4)]
     constructor
     ·intro h;exact ⟨rfl, .inr ⟨h2,by omega,by omega, .inr ⟨h4,h⟩⟩⟩
     ·rintro ⟨_,h | ⟨_,_,_,h | h⟩⟩
      ·omega
      ·omega
      ·exact h.2
    ·rw [if_pos h4,decide_eq_true_eq]
     constructor
     ·intro h;exact ⟨rfl, .inr ⟨h2,by omega,by omega, .inl h⟩⟩
     ·rintro ⟨_,h | ⟨_,_,_,h | h⟩⟩
      ·omega
      ·exact h
      ·exact absurd h.1 h4
  ·rw [if_pos h2,decide_eq_true_eq]
   constructor
   ·intro h;exact ⟨rfl, .inl h⟩
   ·rintro ⟨_,h | h⟩
    ·exact h
    ·exact absurd h.1 h2
mutual
theorem TI (g:List Sy):∀ t u v:Tm,t.gr g u=true→u.gr g v=true→t.gr g v=true
 | .mk h ts,u,v,h1,h2=>by
  have h0:=fun us vs=>R8 g ts us vs
  rw [Yu6] at h1 h2 ⊢
  obtain ⟨a1,a2⟩:=h1
  obtain ⟨b1,b2⟩:=h2
  refine ⟨?_,?_⟩
  ·rw [Ka] at a1 b1 ⊢
   exact fun w hw=>cP (b1 w hw) (a1 w hw)
  ·rcases a2 with a2 | ⟨a2,a3,a4,a5⟩<;>rcases b2 with b2 | ⟨b2,b3,b4,b5⟩
   ·exact .inl (by omega)
   ·exact .inl (by omega)
   ·exact .inl (by omega)
   ·refine .inr ⟨by omega,a3,b4,?_⟩
    rcases a5 with a5 | ⟨a5,a6⟩<;>rcases b5 with b5 | ⟨b5,b6⟩
    ·exact .inl (by omega)
    ·exact .inl (by omega)
    ·exact .inl (by omega)
    ·exact .inr ⟨by omega,h0 _ _ a6 b6⟩
theorem R8 (g:List Sy):∀ ts us vs:List Tm,Tm.rD g ts us=true→Tm.rD g us vs=true→Tm.rD g ts vs=true
 | [],us,vs,h1,_=>by rw [Tm.rD] at h1;cases h1
 | t :: ts,[],vs,h1,_=>by rw [Tm.rD] at h1;cases h1
 | t :: ts,u :: us,[],_,h2=>by rw [Tm.rD] at h2;cases h2
 | t :: ts,u :: us,v :: vs,h1,h2=>by
  rw [Tm.rD] at h1 h2 ⊢
  by_cases e1:t=u
  ·rw [if_pos e1] at h1
   by_cases e2:u=v
   ·rw [if_pos e2] at h2
    rw [if_pos (e1.trans e2)]
    exact R8 g ts us vs h1 h2
   ·rw [if_neg e2] at h2
    rw [if_neg (by rw [e1];exact e2),e1]
    exact h2
  ·rw [if_neg e1] at h1
   by_cases e2:u=v
   ·rw [← e2,if_neg e1];exact h1
   ·rw [if_neg e2] at h2
    have h3:=TI g t u v h1 h2
    have h4:t≠v:=fun e=>by
     rw [← e,PB] at h3;cases h3
    rw [if_neg h4];exact h3
end
section
variable {α:Type} {same gt : α→α→Bool}
theorem Pm (hi:∀ x,gt x x=false) (ht:∀ x y z,gt x y=true→gt y z=true→gt x z=true):∀ l:List α,l≠[]→∃ m∈l, ∀ z∈l,gt z m=false
 | [],h=>absurd rfl h
 | [a],_=>⟨a,by simp,fun z hz=>by rw [aN.1 hz];exact hi a⟩
 | a :: b :: l,_=>by
  obtain ⟨m,h1,h2⟩:=Pm hi ht (b :: l) (by simp)
  cases hg:gt a m with
  | true =>
   refine ⟨a,by simp,fun z hz=>?_⟩
   rcases aQ.1 hz with rfl | hz
   ·exact hi _
   ·cases ry:gt z a with
    | false=>rfl
    | true =>
     have:=h2 z hz
     rw [ht z a m ry hg] at this;cases this
  | false =>
   refine ⟨m,by simp [h1],fun z hz=>?_⟩
   rcases aQ.1 hz with rfl | hz
   ·exact hg
   ·exact h2 z hz
theorem Ym7 (hi:∀ x,gt x x=false) (ht:∀ x y z,gt x y=true→gt y z=true→gt x z=true) {a b:List α} (h1:pI gt a b=true) (h2:pI gt b a=true):False:=by
 unfold pI at h1 h2
 rw [aD,bp,decide_eq_true_eq] at h1 h2
 obtain ⟨m,k1,k2⟩:=Pm hi ht (a++b) (fun e=>by have h3:=h1.2;rw [(List.append_eq_nil_iff.1 e).1] at h3;exact absurd h3 (by simp))
 rcases aW.1 k1 with k1 | k1
 ·obtain ⟨x,e1,e2⟩:=dM.1 (h2.1 m k1)
  rw [k2 x (lh _ e1)] at e2;cases e2
 ·obtain ⟨x,e1,e2⟩:=dM.1 (h1.1 m k1)
  rw [k2 x (gC _ e1)] at e2;cases e2
theorem PO {a b:List α} (h:vB same gt a b=1):pI gt (dy same a b) (dy same b a)=true:=by
 unfold vB at h
 simp only [A9] at h
 split at h
 ·omega
 split at h
 ·assumption
 split at h
 ·omega
 ·omega
theorem Yz8 {a b:List α} (h:vB same gt a b = -1):pI gt (dy same b a) (dy same a b)=true:=by
 unfold vB at h
 simp only [A9] at h
 split at h
 ·omega
 split at h
 ·omega
 split at h
 ·assumption
 ·omega
theorem Yp6 (h:oD same) (hg:xv same gt) (ha:∀ x y,gt x y=true→gt y x=false) {e : α} {c c':List α} (hs:∀ x,dO same x c'≤dO same x c) (hm:vB same gt [e] c' = -1):vB same gt [e] c = -1:=by
 have hm:=Yz8 hm
 rw [Cf h hg] at hm
 obtain ⟨m1,x1,m2⟩:=hm
 simp only [y4 h] at m1 m2
 have o1:pI gt (dy same c [e]) (dy same [e] c)=true:=by
  rw [Cf h hg]
  simp only [y4 h]
  refine ⟨fun y hy=>?_,x1,?_⟩
  ·have:=hs y
   obtain ⟨x,k1,k2⟩:=m1 y (by omega)
   have:=hs x
   exact ⟨x,by omega,k2⟩
  ·have:=hs x1;omega
 have o2:¬ pI gt (dy same [e] c) (dy same c [e])=true:=by
  rw [Cf h hg]
  simp only [y4 h]
  rintro ⟨n1,x0,n2⟩
  have Df:∀ z,0<dO same z [e] - dO same z c→same z e=true:=fun z hz=>by
   by_cases BK:same z e=true
   ·exact BK
   ·simp only [dO,if_neg BK] at hz;omega
  have:=hs x0
  obtain ⟨x,k1,k2⟩:=m1 x0 (by omega)
  have:=hs x
  obtain ⟨w,k3,k4⟩:=n1 x (by omega)
  have k5:=h.trans _ _ _ (Df w k3) (h.symm _ _ (Df x0 n2))
  rw [hg w x0 x x k5 (h.refl _)] at k4
  rw [ha x x0 k2] at k4;cases k4
 have o3:¬ (dy same [e] c).length+(dy same c [e]).length=0:=by
  rw [Lj h]
  intro k
  have k:=(k x1).2
  rw [y4 h] at k
  have:=hs x1
  omega
 unfold vB
 simp only [A9]
 rw [if_neg o3,if_neg o2,if_pos o1]
end
theorem ZN (g:List Sy) (x y:Li) (h:decide (AL g x y=1)=true):decide (AL g y x=1)=false:=by
 simp only [decide_eq_true_eq,decide_eq_false_iff_not] at h ⊢
 intro k
 exact Ym7 (PB g) (TI g) (PO h) (PO k)
def AO (d c:List Li):Prop:=(∀ x,dO eS x d≤dO eS x c)∧∀ l∈d,l∈c
theorem ZF {g:List Sy} {c d:List Li} {u:Un} {t:Tm} (hs:AO d c) (hc:j4 g c) (hd:j4 g d) (hl:jQ g u.l) (hr:jQ g u.r) (ht:jQ g t) (hb:fE u=false) (h:(j5 g d u t).2=true):(j5 g c u t).2=true:=by
 obtain ⟨s,h1,h2,h3,h4,h5⟩:=(R1 hd hl hr ht hb).1 h
 exact (R1 hc hl hr ht hb).2 ⟨s,h1,h2,h3,h4,Yp6 WJ (Y5 g) (ZN g) hs.1 h5⟩
theorem JG {T:Un→mP→Tm×Bool} {s:mP}:∀ {us:List Un},gk T s us=none↔∀ u∈us,(T u s).2=false
 | []=>by simp [gk]
 | u :: us=>by
  rw [gk]
  cases h:(T u s).2 with
  | true=>simp [h]
  | false =>
   rw [if_neg (by simp),JG]
   constructor
   ·intro k x hx
    rcases aQ.1 hx with rfl | hx
    ·exact h
    ·exact k x hx
   ·intro k x hx;exact k x (by simp [hx])
theorem Qx {T:Un→mP→Tm×Bool} {us:List Un}:∀ {ss:List mP},ka T us ss=none↔∀ s∈ss, ∀ u∈us,(T u s).2=false
 | []=>by simp [ka]
 | s :: ss=>by
  rw [ka]
  cases h:gk T s us with
  | some x =>
   constructor
   ·intro k;cases k
   ·intro k
    rw [JG.2 (k s (by simp))] at h;cases h
  | none =>
   simp only
   rw [Qx]
   constructor
   ·intro k x hx
    rcases aQ.1 hx with rfl | hx
    ·exact JG.1 h
    ·exact k x hx
   ·intro k x hx;exact k x (by simp [hx])
theorem Kb:∀ (c:List Li) (i:Nat) (s:mP),s∈cK c i↔∃ (j:Nat) (h:j<c.length),s∈kL (i+j) c[j]
 | [],i,s=>by simp [cK]
 | l :: c,i,s=>by
  rw [cK,aW,Kb c (i+1) s]
  constructor
  ·rintro (h | ⟨j,hj,h⟩)
   ·exact ⟨0,by simp,by simpa using h⟩
   ·exact ⟨j+1,by simpa using hj,by rw [show i+(j+1)=i+1+j by omega];simpa using h⟩
  ·rintro ⟨j,hj,h⟩
   cases j with
   | zero=>exact .inl (by simpa using h)
   | succ j=>exact .inr ⟨j,by simpa using hj,by rw [show i+1+j=i+(j+1) by omega];simpa using h⟩
theorem Zy4 {i k:Nat} {l:Li} {s:mP} (h:s∈kL i l):∃ s'∈kL k l,s'.t=s.t:=by
 unfold kL cT at h ⊢
 rcases aW.1 h with h | h<;>obtain ⟨q,hq,rfl⟩:=cn.1 h
 ·exact ⟨_,gC _ (cn.2 ⟨q,hq,rfl⟩),rfl⟩
 ·exact ⟨_,lh _ (cn.2 ⟨q,hq,rfl⟩),rfl⟩
theorem YC {d c:List Li} (hs:∀ l∈d,l∈c) {s:mP} (h:s∈cK d 0):∃ s'∈cK c 0,s'.t=s.t:=by
 obtain ⟨j,hj,h1⟩:=(Kb d 0 s).1 h
 obtain ⟨k,hk,e⟩:=lM.1 (hs _ (aE hj))
 rw [← e] at h1
 obtain ⟨s',h2,h3⟩:=Zy4 (k:=0+k) h1
 exact ⟨s',(Kb c 0 s').2 ⟨k,hk,h2⟩,h3⟩
def calm (g:List Sy) (us:List Un) (c:List Li):Prop:=ka (TT g c) us (cK c 0)=none
theorem Ta {g:List Sy} {us:List Un} {c d:List Li} (hs:AO d c) (hc:j4 g c) (hd:j4 g d) (hu:∀ u∈us,fE u=false∧jQ g u.l∧jQ g u.r) (h:calm g us c):calm g us d:=by
 unfold calm at h ⊢
 rw [Qx] at h ⊢
 intro s ua u uI
 obtain ⟨s',h1,h2⟩:=YC hs.2 ua
 obtain ⟨b1,b2,b3⟩:=hu u uI
 cases hb:(TT g d u s).2 with
 | false=>rfl
 | true =>
  have:=ZF hs hc hd b2 b3 (Zx hd s ua) b1 hb
  have k:=h s' h1 u uI
  unfold TT at k
  rw [h2,this] at k;cases k
theorem XM {g:List Sy} {us:List Un} {c:List Li}:calm g us c↔((fb g us c).2.2.2=0∧(fb g us c).2.2.1=false):=by
 unfold calm fb lu
 cases h:ka (TT g c) us (cK c 0) with
 | none=>simp
 | some x =>
  constructor
  ·intro k;cases k
  ·rintro ⟨k1,k2⟩
   simp only at k1 k2
   split at k2
   ·cases k2
   ·rename_i hc;rw [if_neg hc] at k1;exact absurd k1 hc
theorem Kn {g:List Sy} {es:List (List Li)} {c:List Li} (hw:cM g (c :: es)=0):calm g (cU es) c↔(cz g es c).2.2=0∧(cz g es c).2.1=[]:=by
 have e1:cz g es c=fg (fb g (cU es)) 201 c []:=by unfold cz gq;exact if_neg (fun k=>k hw)
 rw [XM,e1]
 constructor
 ·rintro ⟨h1,h2⟩
  rw [fg,if_neg (fun k=>k h1),if_pos h2]
  exact ⟨rfl,rfl⟩
 ·rintro ⟨h1,h2⟩
  rw [fg] at h1 h2
  by_cases h3:(fb g (cU es) c).2.2.2=0
  ·rw [if_neg (fun k=>k h3)] at h1 h2
   refine ⟨h3,?_⟩
   by_cases h4:(fb g (cU es) c).2.2.1=false
   ·exact h4
   ·rw [if_neg h4] at h1 h2
    split at h1
    ·cases h1
    ·rename_i h5
     rw [if_neg h5] at h2
     have:=(KT (P:=fun _=>True) (fun _ _ _ _=>trivial) 200 _ _ trivial h1).2.2.2.1
     rw [h2] at this
     simp at this
  ·rw [if_pos h3] at h1;exact absurd h1 h3
theorem XB {g:List Sy} {es:List (List Li)} {c:List Li} (h:sG es c) (h0:(cz g es c).2.2=0):calm g (cU es) (cz g es c).1:=by
 obtain ⟨hw,hx,e,_⟩:=KJ h h0
 have rH:cM g ((cz g es c).1 :: es)=0:=by
  rw [cM,if_neg (fun k=>k hx.1)]
  rw [cM] at hw
  split at hw
  ·rename_i h3;exact absurd hw h3
  ·exact hw
 rw [Kn rH,e]
 exact ⟨rfl,rfl⟩
def nk (l:Li):Bool:=decide (l.l=l.r)
def vE (a b:Li):Bool:=decide (a.neg≠b.neg)&&pv a b
def iT:List Li→List Li→List Li
 | out,[]=>out
 | out,l :: c=>if ((out.any fun m=>eS l m)||(l.neg&&nk l))=true then iT out c else iT (out++[l]) c
def iE (c:List Li):List Li:=iT [] c
def se:List Li→List Li→Bool
 | _,[]=>false
 | b,l :: c=>if ((b.any fun m=>vE l m)||(!l.neg&&nk l))=true then true else se (b++[l]) c
def kS (c:List Li):Bool:=se [] c
def kU (b:List Bd) (p t:Tm):Option (List Bd):=fh [(p,t)] b
def kK (l:Li):Bool:=decide (l.l.head=0)||decide (l.r.head=0)
def ke (b:List Bd) (a:Li) (x y:Tm) (F:List Bd→Bool):Bool:=match kU b a.l x with
 | none=>false
 | some m=>match kU m a.r y with
  | none=>false
  | some k=>F k
def lz (b:List Bd) (a l:Li) (F:List Bd→Bool):Bool:=if kK a≠kK l then false else ke b a l.l l.r F||ke b a l.r l.l F
def jz:Li:=⟨false,gT,gT⟩
def l6 (d:List Li):List Li→List Bool→List Bd→Bool
 | [],_,_=>true
 | a :: c,us,b=>(List.range d.length).any fun k=>!us.getD k false&&decide ((d.getD k jz).neg=a.neg)&&lz b a (d.getD k jz) fun m=>l6 d c (us.set k true) m
def qc (l:Li):Bool:=decide (l.l.check≠0)||decide (l.r.check≠0)
def jr (c d:List Li):Int:=if 32<c.length∨32<d.length then 2 else if (c.any qc||d.any qc)=true then 1 else 0
def ia (d:List Li):List Bool:=List.replicate d.length false
def pS (c d:List Li):Bool:=decide (c.length≤d.length)&&l6 d c (ia d) []
def jl (c d:List Li):Bool×Int:=if jr c d≠0 then (false,jr c d) else (pS c d,0)
def cutAt (c d:List Li) (k i:Nat):Bool:=decide ((c.getD i jz).neg≠(d.getD k jz).neg)&&lz [] (c.getD i jz) (d.getD k jz) fun m=>l6 d (c.eraseIdx i) ((ia d).set k true) m
def uT (c d:List Li):Option Nat:=(List.range d.length).find? fun k=>(List.range c.length).any fun i=>cutAt c d k i
def og (c d:List Li):Int×Bool×Int:=if jr c d≠0 then (0,false,jr c d) else match uT c d with
 | some k=>((k:Int),true,0)
 | none=>(0,false,0)
theorem Kt:∀ (c out:List Li), ∀ x∈iT out c,x∈out∨x∈c
 | [],out,x,h=>.inl (by rw [iT] at h;exact h)
 | a :: c,out,x,h=>by
  rw [iT] at h
  split at h
  ·exact (Kt c out x h).imp id (cB _)
  ·rcases Kt c _ x h with h | h
   ·rcases aW.1 h with h | h
    ·exact .inl h
    ·rw [aN.1 h];exact .inr (by simp)
   ·exact .inr (cB _ h)
theorem S9 {α:Type} (same : α→α→Bool) (x : α):∀ a b:List α,dO same x (a++b)=dO same x a+dO same x b
 | [],b=>by rw [bh,dO];omega
 | y :: a,b=>by rw [bj,dO,dO,S9 same x a b];omega
theorem Kj (x:Li):∀ (c out:List Li),dO eS x (iT out c)≤dO eS x out+dO eS x c
 | [],out=>by rw [iT,dO];exact ah _
 | a :: c,out=>by
  rw [iT]
  split
  ·have:=Kj x c out;rw [dO];omega
  ·have:=Kj x c (out++[a]);rw [S9] at this;simp only [dO] at this ⊢;omega
theorem Kf:∀ (c out:List Li),(iT out c).length≤out.length+c.length
 | [],out=>by rw [iT];simp
 | a :: c,out=>by
  rw [iT]
  split
  ·have:=Kf c out;rw [ax];omega
  ·have:=Kf c (out++[a]);rw [ay] at this;simp only [ax,aR] at this ⊢;omega
theorem S8 (c:List Li):AO (iE c) c:=by
 refine ⟨fun x=>?_,fun l hl=>?_⟩
 ·have:=Kj x c [];rw [dO] at this;unfold iE;omega
 ·rcases Kt c [] l hl with h | h
  ·cases h
  ·exact h
theorem T0 (c:List Li):(iE c).length≤c.length:=by have:=Kf c [];unfold iE;simpa using this
def pc:List Li→Prop
 | []=>True
 | l :: c=>(l.neg&&nk l)=false∧(∀ m∈c,eS m l=false)∧pc c
theorem S6:∀ a b:List Li,pc (a++b)↔pc a∧pc b∧∀ x∈a, ∀ y∈b,eS y x=false
 | [],b=>by simp [pc]
 | l :: a,b=>by
  rw [bj,pc,pc,S6 a b]
  constructor
  ·rintro ⟨h1,h2,h3,h4,h5⟩
   refine ⟨⟨h1,fun m hm=>h2 m (gC _ hm),h3⟩,h4,fun x hx y hy=>?_⟩
   rcases aQ.1 hx with rfl | hx
   ·exact h2 y (lh _ hy)
   ·exact h5 x hx y hy
  ·rintro ⟨⟨h1,h2,h3⟩,h4,h5⟩
   refine ⟨h1,fun m hm=>?_,h3,h4,fun x hx y hy=>h5 x (cB _ hx) y hy⟩
   rcases aW.1 hm with hm | hm
   ·exact h2 m hm
   ·exact h5 l (by simp) m hm
theorem J4:∀ (c out:List Li),pc out→pc (iT out c)
 | [],out,h=>by rw [iT];exact h
 | a :: c,out,h=>by
  rw [iT]
  split
  ·exact J4 c out h
  ·rename_i hn
   simp only [bY,not_or,da] at hn
   refine J4 c _ ((S6 out [a]).2 ⟨h,⟨hn.2,fun m hm=>(by cases hm),trivial⟩,fun x hx y hy=>?_⟩)
   rw [aN.1 hy]
   cases hs:eS a x with
   | false=>rfl
   | true =>
    have:=dM.2 ⟨x,hx,hs⟩
    rw [hn.1] at this;cases this
theorem RU (c:List Li):pc (iE c):=J4 c [] trivial
theorem Q6:∀ {c:List Li} (k:Nat),pc c→pc (c.eraseIdx k)
 | [],k,h=>by simpa using h
 | l :: c,0,h=>by rw [List.eraseIdx_cons_zero];exact h.2.2
 | l :: c,k+1,h=>by
  rw [List.eraseIdx_cons_succ]
  exact ⟨h.1,fun m hm=>h.2.1 m (n6 hm),Q6 k h.2.2⟩
theorem SG (c:List Li) (k:Nat):AO (c.eraseIdx k) c:=by
 refine ⟨fun x=>?_,fun l hl=>n6 hl⟩
 induction c generalizing k with
 | nil=>simp
 | cons a c ih =>
  cases k with
  | zero=>rw [List.eraseIdx_cons_zero,dO];omega
  | succ k=>rw [List.eraseIdx_cons_succ,dO,dO];have:=ih k;omega
theorem Pa {g:List Sy} {d c:List Li} (hs:∀ l∈d,l∈c) (hl:d.length≤c.length) (hc:j4 g c):j4 g d:=by
 refine ⟨?_,fun l h=>hc.2 l (hs l h)⟩
 obtain ⟨h1,h2,h3⟩:=yV hc.1
 unfold bd
 rw [if_neg (by rw [h1];simp),if_neg (by omega)]
 have key:∀ c:List Li,(∀ l∈c,l.check g=0)→dA g c=0:=by
  intro c
  induction c with
  | nil=>intro _;rfl
  | cons a c ih =>
   intro h
   rw [dA,if_neg (fun k=>k (h a (by simp)))]
   exact ih fun l hl=>h l (by simp [hl])
 exact key d fun l h=>h3 l (hs l h)
theorem N6 {g:List Sy} {c:List Li} (hc:j4 g c):j4 g (iE c):=Pa (S8 c).2 (T0 c) hc
theorem Yjk {g:List Sy} {c:List Li} (k:Nat) (hc:j4 g c):j4 g (c.eraseIdx k):=Pa (SG c k).2 (List.length_eraseIdx_le _ _) hc
end Go.Proofs
namespace Go.Proofs
open Go Go.c8
attribute [local go_sem] Nat.reduceAdd Nat.reduceSub Nat.reduceMul Nat.reduceLeDiff Nat.reduceEqDiff Nat.reduceBEq Nat.reduceLT Nat.le_refl Int.natCast_zero Nat.sub_zero List.length_map Int.toNat_natCast Int.natCast_one Int.reduceEq Int.reduceLT Int.reduceLE Int.reduceNe Int.sub_zero Int.zero_add Int.toNat_one
theorem Yru (l:Li) (h1:l.l.size<999999999) (h2:l.r.size<999999999):aJ Tryz.prog 89 [l.aO] (.bool (qc l)):=by
 refine aJ.begin (rs:=[.tmp 2]) (m:=12) 1000 Tryz.func89 rfl rfl rfl (by decide) trivial ?_
 have c1:=B8 l.l h1
 have c2:=B8 l.r h2
 unfold qc
 simp only [go_sem,ky]
 refine aq.bU [] (c1) (by (try simp only [dc]);exact cE _ _ _) (by simp [go_sem,dC,bQ]) ?_;simp only [bO,bX,bW,if_true];refine aK.go 1000 ?_
 by_cases e1:l.l.check=0
 ·simp only [go_sem,e1]
  refine aq.bU [] (c2) (by (try simp only [dc]);exact cE _ _ _) (by simp [go_sem,dC,bQ]) ?_;simp only [bO,bX,bW,if_true];refine aK.go 1000 ?_
  by_cases e2:l.r.check=0
  ·simp only [go_sem,e2]
  ·simp only [go_sem,e2]
 ·simp only [go_sem,e1]
theorem Uc (l:Li):aJ Tryz.prog 131 [l.aO] (.bool (kK l)):=by
 refine aJ.begin (rs:=[.tmp 2]) (m:=12) 1000 Tryz.func131 rfl rfl rfl (by decide) trivial ?_
 unfold kK
 by_cases e1:l.l.head=0
 ·simp only [go_sem,ky,e1]
 ·by_cases e2:l.r.head=0
  ·simp only [go_sem,ky,e1,e2]
  ·simp only [go_sem,ky,e1,e2]
def re (L:List (List Li)):Int:=if (L.any fun c=>decide (32<c.length))=true then 2 else if (L.any fun c=>c.any qc)=true then 1 else 0
theorem T6 (c d:List Li):re [c,d]=jr c d:=by
 unfold re jr
 simp
def Dr (c:List Li):Prop:=(∀ l∈c,l.l.size<999999999∧l.r.size<999999999)∧c.length<2 ^ 62
theorem Sj (L:List (List Li)) (hL:∀ c∈L,Dr c) (hl:L.length<1000000) :
  aJ Tryz.prog 54 [.ps 1 (cX L)] (.int .i64 (re L)):=by
 refine aJ.begin (rs:=[.tmp 2]) (m:=27) 1000 Tryz.func54 rfl rfl rfl (by decide) trivial ?_
 have hf:∀ e:List Li,Dr e→aq Tryz.prog (.fn 63 [] []) [.ps 5 (lits e), .fn 89 [] []] [] (fun r σ'=>r = .bool (e.any qc)∧σ'=[]):=fun e he =>
  Ha [] _ qc e he.2 trivial (by simp [go_sem]) fun i hi=>by
   obtain ⟨a1,a2⟩:=he.1 _ (aE hi)
   refine aq.bU [] (Yru e[i] a1 a2) (cE _ _ _) (by simp [go_sem,mR]) ?_
   simp only [bO,if_true]
   trivial
 obtain ⟨Y,hY⟩:∃ Y,(L.any fun c=>decide (32<c.length))=Y:=⟨_,rfl⟩
 obtain ⟨Z,hZ⟩:∃ Z,(L.any fun c=>c.any qc)=Z:=⟨_,rfl⟩
 have hW:re L=if Y=true then 2 else if Z=true then 1 else 0:=by unfold re;rw [hY,hZ]
 rw [hW]
 simp only [go_sem]
 refine aK.c_ (ι:={i:Nat // i≤L.length∧((L.drop i).any fun c=>decide (32<c.length))=Y}) 1000 (fun q=>fG 28 [(0, .ps 1 (cX L)),(2, .int .i64 0),(8, .ps 1 (cX L)),(9, .int .i64 L.length),(10, .int .i64 q.1)])
  (fun _=>[]) (fun q=>L.length - q.1) ⟨0,av _,by rw [di];first | exact hY | exact hZ⟩ ?_ (fun _=>av _) ?_
 ·simp only [go_sem,fe,mH]
 ·rintro ⟨i,hi,aP⟩
  by_cases bD:(i:Int)<L.length
  ·have aZ:i<L.length:=by omega
   have hw:IntKind.i64.wrap ((i:Int)+1)=((i+1:Nat):Int):=by rw [ek (by omega)];omega
   have g1:=y5 aZ
   rw [ao aZ,dX] at aP
   generalize L[i]=c at *
   by_cases hc:(32:Int)<c.length
   ·have qE:decide (32<c.length)=true:=by simp;omega
    rw [qE,fH] at aP
    subst aP
    rw [if_pos rfl]
    simp only [go_sem,bD,mH,g1,fP,hc]
    refine ⟨by omega,?_⟩
    refine aK.go 1000 ?_
    simp only [go_sem]
   ·have qE:decide (32<c.length)=false:=by simp;omega
    rw [qE,dn] at aP
    simp only [go_sem,bD,mH,g1,fP,hc]
    refine ⟨by omega,⟨i+1,by omega,aP⟩,?_,by simp only;omega⟩
    simp only [go_sem,fe,hw]
  ·have dP:i=L.length:=by omega
   subst dP
   rw [aV,mG] at aP
   subst aP
   rw [if_neg (by simp)]
   simp only [go_sem,bD]
   refine aK.go 1000 ?_
   simp only [go_sem]
   refine aK.c_ (ι:={i:Nat // i≤L.length∧((L.drop i).any fun c=>c.any qc)=Z}) 1000 (fun q=>fG 28 [(2, .int .i64 0),(5, .fn 89 [] []),(18, .ps 1 (cX L)),(19, .int .i64 L.length),(20, .int .i64 q.1)])
    (fun _=>[]) (fun q=>L.length - q.1) ⟨0,av _,by rw [di];first | exact hY | exact hZ⟩ ?_ (fun _=>av _) ?_
   ·simp only [go_sem,fe,mH]
   ·rintro ⟨i,hi,aP⟩
    by_cases bD:(i:Int)<L.length
    ·have aZ:i<L.length:=by omega
     have hw:IntKind.i64.wrap ((i:Int)+1)=((i+1:Nat):Int):=by rw [ek (by omega)];omega
     have g1:=y5 aZ
     have hk:=hf _ (hL _ (aE aZ))
     rw [ao aZ,dX] at aP
     generalize L[i]=c at *
     simp only [go_sem,bD,mH,g1]
     refine ⟨by omega,?_⟩
     refine hk.mono ?_
     rintro r σ' ⟨rfl,rfl⟩
     cases hc:c.any qc with
     | true =>
      rw [hc,fH] at aP
      subst aP
      rw [if_pos rfl]
      refine aK.go 1000 ?_
      simp only [go_sem]
      refine aK.go 1000 ?_
      simp only [go_sem]
     | false =>
      rw [hc,dn] at aP
      refine aK.go 1000 ?_
      simp only [go_sem]
      refine ⟨⟨i+1,by omega,aP⟩,?_,by simp only;omega⟩
      simp only [go_sem,fe,hw]
    ·have dP:i=L.length:=by omega
     subst dP
     rw [aV,mG] at aP
     subst aP
     rw [if_neg (by simp)]
     simp only [go_sem,bD]
     refine aK.go 1000 ?_
     simp only [go_sem]
theorem W4 (ks vs:List ae) (σ:ai) (hs:bt σ.length σ) (hk:bx 0 ks) (hv:bx 0 vs):aq Tryz.prog (.fn 158 [] []) [.pm ks vs] σ
  (fun r σ'=>r = .map σ.length∧σ' = σ++[some (.map ks vs false)]):=by
 have Am:∀ {n},bx n ks:=fun {n}=>il (av n) hk
 have hvn:∀ {n},bx n vs:=fun {n}=>il (av n) hv
 refine aq.begin (rs:=[.tmp 2]) (m:=8) 1000 Tryz.func158 rfl rfl rfl rfl rfl ?_
 simp only [go_sem]
 refine aq.wW Tryz.func184 (by kernel_rfl) (by kernel_rfl) (by kernel_rfl) (by kernel_rfl) ?_
 refine aK.go 1000 ?_
 simp only [go_sem]
 rw [fL]
 refine ⟨_,fx _,by simp,o8 (nx (by simp) hs) ?_,?_,rfl,rfl⟩
 ·simp [go_sem,Am,hvn]
 ·simp [go_sem]
def mapA:Option (List Bd)→ae
 | none=>.cw
 | some m=>.pm (fj m) (fO m)
theorem ZP (o:Option (List Bd)):(mapA o).low 0:=by
 cases o with
 | none=>trivial
 | some m=>exact ⟨(iD m).1,(iD m).2⟩
set_option maxHeartbeats 1000000 in
theorem Uy (b:List Bd) (p t:Tm) (hp:p.fit) (hps:p.size<99999999) (ru:t.size<99999999) (hb:∀ x∈b,x.t.size<99999999) :
  aJ Tryz.prog 132 [.pm (fj b) (fO b),p.aO,t.aO] (mapA (kU b p t)):=by
 refine aJ.begin (rs:=[.tmp 6]) (m:=83) 1000 Tryz.func132 rfl rfl rfl (by decide) (ZP _) ?_
 obtain ⟨g,hg⟩:∃ g,kU b p t=g:=⟨_,rfl⟩
 rw [hg]
 unfold kU at hg
 simp only [go_sem,ft]
 refine (W4 _ _ _ (by simp [go_sem,bQ]) (iD b).1 (iD b).2).mono ?_
 rintro r σ' ⟨rfl,rfl⟩
 refine aK.go 1000 ?_
 simp only [go_sem,bj,bh,ax,aR]
 refine aK.draw [⟨none,[],[4]⟩,⟨some 3,[3],[4]⟩,⟨none,[],[3]⟩,⟨some 4,[4],[3]⟩,⟨none,[],[4]⟩] 3 5 mixed rfl rfl (by decide) ?_
 simp only [go_sem,dx]
 refine aK.go 1000 ?_
 simp only [go_sem]
 have hA1:nW [(p,t)]=[.agg [.int .i64 p.head, .ps 2 (p.args.map Tm.aO)]]:=by simp [nW,dc]
 have hB1:nX [(p,t)]=[.agg [.int .i64 t.head, .ps 2 (t.args.map Tm.aO)]]:=by simp [nX,dc]
 refine aK.h_ (ι:={q:List (Tm×Tm)×List ae×List ae×List Bd // fh q.1 q.2.2.2=g∧bx 0 q.2.1∧bx 0 q.2.2.1∧lq q.1≤p.size∧(∀ x∈q.1,x.1.fit∧x.2.size<99999999)∧(∀ x∈q.2.2.2,x.t.size<99999999)}) 1000
  (fun q=>fG 86 [(6, .cw),(7, .map 2),(8, .os 3 0 q.1.1.length 2),(9, .os 4 0 q.1.1.length 2)])
  (fun q=>[none,none,some (.map (fj q.1.2.2.2) (fO q.1.2.2.2) false),some (.row (nW q.1.1++q.1.2.1) 0),some (.row (nX q.1.1++q.1.2.2.1) 0)]) (fun q=>lq q.1.1) ⟨([(p,t)],[],[],b),hg,trivial,trivial,by simp [lq],fun x hx=>by rw [aN.1 hx];exact ⟨hp,ru⟩,hb⟩ [] ?_ (fun _=>by simp) ?_
 ·refine iP rfl ?_
  dsimp only
  rw [hA1,hB1]
  simp only [go_sem,iD,cD (iD _).1,cD (iD _).2,bQ,cD (bQ _),bn]
 ·rintro ⟨⟨s,j1,j2,m⟩,h1,h2,h3,h4,h5,h6⟩
  simp only at h1 h2 h3 h4 h5 h6
  cases s with
  | nil =>
   rw [fh] at h1
   subst h1
   simp only [go_sem,aR]
   refine aK.go 1000 ?_
   simp only [go_sem,mapA]
  | cons x r =>
   obtain ⟨GL,v7⟩:=h5 x (by simp)
   have C9:∀ y∈r,y.1.fit∧y.2.size<99999999:=fun y hy=>h5 y (by simp [hy])
   have Nf:=Lm r
   rw [lq] at h4
   have yl:=zF x.1
   have Ej:=E7 GL
   unfold n5 at Ej
   have rG:IntKind.i64.wrap ((r.length:Int)+1 - 1)=r.length:=by rw [ek (by omega)];omega
   have nE:(0:Int)<r.length+1:=by omega
   have s_:IntKind.i64.wrap (-1 - x.1.head) = -1 - x.1.head:=ek (by omega)
   have hA:nW (x :: r)++j1=nW r++x.1.aO :: j1:=by rw [Tj];simp
   have hB:nX (x :: r)++j2=nX r++x.2.aO :: j2:=by rw [Ul];simp
   have MC:(nW r++x.1.aO :: j1).getD r.length .undef=x.1.aO:=by rw [← D8 r];simp [List.getD]
   have MD:(nX r++x.2.aO :: j2).getD r.length .undef=x.2.aO:=by rw [← D_ r];simp [List.getD]
   have Gk:(nW r++x.1.aO :: j1).length=r.length+1+j1.length:=by simp [D8];omega
   have Gl:(nX r++x.2.aO :: j2).length=r.length+1+j2.length:=by simp [D_];omega
   simp only [go_sem,ax,hA,hB,lZ,l5,nE,rG]
   refine aK.draw [⟨none,[],[5,6]⟩,⟨none,[],[5,6]⟩,⟨none,[],[5,6]⟩,⟨none,[],[5,6]⟩,⟨none,[],[5,6]⟩,⟨none,[],[5,6]⟩,⟨none,[],[5,6]⟩,⟨none,[],[5,6]⟩,⟨some 5,[5],[6]⟩,⟨some 6,[6],[5]⟩,⟨none,[5],[]⟩,⟨none,[6],[]⟩] 5 7 mixed rfl rfl (by decide) ?_
   simp only [go_sem,dx,Gk,Gl,MC,MD,ft]
   refine ⟨⟨by omega,by omega⟩,by omega,⟨by omega,by omega⟩,by omega,?_⟩
   refine aK.go 1000 ?_
   refine aK.draw [] 7 7 mixed rfl rfl (by decide) ?_
   simp only [go_sem,dx]
   refine ⟨by omega,by omega,?_⟩
   have hl:∀ n,bx n (nW r++x.1.aO :: j1)∧bx n (nX r++x.2.aO :: j2):=fun n=>⟨rO (of_eq_true (Iu r)) ⟨dC x.1,il (av _) h2⟩,rO (of_eq_true (Ij r)) ⟨dC x.2,il (av _) h3⟩⟩
   by_cases hv : 0≤-1 - x.1.head
   ·rw [fh,if_pos hv] at h1
    have oP:=JS m (-1 - x.1.head) (.agg [.int .i64 0, .aU])
    cases hf:m.find? (fun c=>c.v == -1 - x.1.head) with
    | some c =>
     rw [hf] at oP h1
     simp only at h1 oP
     have sw:=h6 c (bI hf)
     refine aK.go 1000 ?_
     simp only [go_sem,s_,hv,yZ,oP,ft]
     refine aq.bU [] (zL c.t x.2 (by omega) (by omega)) (by (try simp only [dc]);exact cE _ _ _) (by simp [go_sem,dC,bQ]) ?_;simp only [bO,bX,bW,if_true];refine aK.go 1000 ?_
     by_cases he:c.t=x.2
     ·rw [if_pos he] at h1
      have yg:=Qs (x:=.agg [.int .i64 x.2.head, .ps 2 (x.2.args.map Tm.aO)]) (by rw [he,dc]) hf
      simp only [go_sem,he,yZ,yg]
      refine ⟨⟨(r,x.1.aO :: j1,x.2.aO :: j2,m),h1,⟨dC x.1,h2⟩,⟨dC x.2,h3⟩,by simp only;omega,C9,h6⟩,[],iP rfl ?_,by simp only [lq];omega⟩
      have wP:=hl 0
      simp only [go_sem,iD,cD (iD _).1,cD (iD _).2,cD wP.1,cD wP.2,hl]
     ·rw [if_neg he] at h1
      subst h1
      simp only [go_sem,he]
      refine aK.go 1000 ?_
      simp only [go_sem,mapA]
    | none =>
     rw [hf] at oP h1
     simp only at h1 oP
     have yg:=J3 (l:=m) (b:=⟨-1 - x.1.head,x.2⟩) (x:=.agg [.int .i64 x.2.head, .ps 2 (x.2.args.map Tm.aO)]) (dc _).symm hf
     refine aK.go 1000 ?_
     simp only [go_sem,s_,hv,yZ,oP,ft,yg]
     refine ⟨⟨(r,x.1.aO :: j1,x.2.aO :: j2,m++[⟨-1 - x.1.head,x.2⟩]),h1,⟨dC x.1,h2⟩,⟨dC x.2,h3⟩,by simp only;omega,C9,fun y hy=>?_⟩,[],iP rfl ?_,by simp only [lq];omega⟩
     ·rcases aW.1 hy with hy | hy
      ·exact h6 y hy
      ·rw [aN.1 hy];exact v7
     have wP:=hl 0
     simp only [go_sem,iD,cD (iD _).1,cD (iD _).2,cD wP.1,cD wP.2,hl]
   ·rw [fh,if_neg hv] at h1
    by_cases c1:x.1.head=x.2.head
    ·by_cases c2:x.1.args.length=x.2.args.length
     ·rw [if_neg (by simp [c1,c2])] at h1
      have vq:IntKind.i64.wrap (-1 - x.2.head) = -1 - x.2.head:=by rw [← c1];exact s_
      have vY:¬ 0≤-1 - x.2.head:=by rw [← c1];exact hv
      have c3:(x.1.args.length:Int)=x.2.args.length:=by omega
      refine aK.go 1000 ?_
      simp only [go_sem,vq,vY,c1,c3,ak]
      refine aK.draw [.no, .no, .no,⟨some 7,[3,7],[]⟩,⟨none,[],[3,7]⟩,⟨none,[],[3,7]⟩,⟨none,[],[3,7]⟩,⟨some 8,[4,8],[]⟩] 7 9 mixed rfl rfl (by decide) ?_
      have Nn:(nW r++x.1.aO :: j1).take r.length=nW r:=by rw [← D8 r,mO]
      have Np:(nX r++x.2.aO :: j2).take r.length=nX r:=by rw [← D_ r,mO]
      have Mg:=p5 x.1.args
      have Nl:=ov x.1
      simp only [go_sem,dx,Gk,Gl,Nn,Np,ak]
      refine ⟨⟨by omega,by omega,by omega⟩,⟨by omega,by omega,by omega⟩,?_⟩
      refine aK.go 1000 ?_
      simp only [go_sem]
      have I6:=Fa x.1 x.2 r
      refine ⟨⟨((x.1.args.zip x.2.args).reverse++r,[],[],m),h1,trivial,trivial,by simp only;omega,fun y hy=>?_,h6⟩,[(3,7),(7,3),(4,8),(8,4)],iP rfl ?_,by simp only [lq];omega⟩
      ·rcases aW.1 hy with hy | hy
       ·have hy:=cO.1 hy
        have a1:=sT (cW hy).2
        have a2:=ov x.2
        exact ⟨wA (xg GL) _ (cW hy).1,by omega⟩
       ·exact C9 y hy
      dsimp only
      rw [Ud c2,TK c2,show ((x.1.args.zip x.2.args).reverse++r).length=r.length+x.1.args.length by simp [c2];omega]
      have lA:∀ n,bx n (nW r++x.1.args.map Tm.aO):=fun n=>rO (of_eq_true (Iu r)) (bQ _)
      have lB:∀ n,bx n (nX r++x.2.args.map Tm.aO):=fun n=>rO (of_eq_true (Ij r)) (bQ _)
      have NH:=lA 0
      have NI:=lB 0
      simp only [go_sem,iD,cD (iD _).1,cD (iD _).2,cD NH,cD NI,lA,lB,bn,c2]
     ·rw [if_pos (.inr c2)] at h1
      have vq:IntKind.i64.wrap (-1 - x.2.head) = -1 - x.2.head:=by rw [← c1];exact s_
      have vY:¬ 0≤-1 - x.2.head:=by rw [← c1];exact hv
      have c3:¬ (x.1.args.length:Int)=x.2.args.length:=by omega
      subst h1
      refine aK.go 1000 ?_
      simp only [go_sem,vq,vY,c1,c3,ak]
      refine aK.go 1000 ?_
      simp only [go_sem,mapA]
    ·rw [if_pos (.inl c1)] at h1
     subst h1
     refine aK.go 1000 ?_
     simp only [go_sem,s_,hv,c1]
     refine aK.go 1000 ?_
     simp only [go_sem,mapA]
theorem Yzu {Q:Tm→Prop} (ha:∀ t,Q t→∀ u∈t.args,Q u):∀ (S:List (Tm×Tm)) (m:List Bd),(∀ x∈S,Q x.2)→(∀ b∈m,Q b.t)→∀ m',fh S m=some m'→∀ b∈m',Q b.t:=by
 intro S m
 induction S,m using fh.induct with
 | case1 m=>intro _ h m' e;rw [fh] at e;cases e;exact h
 | case2 x r m hv c hf he ih =>
  intro h1 h2 m' e
  rw [fh,if_pos hv,hf] at e
  simp only [if_pos he] at e
  exact ih (fun y hy=>h1 y (by simp [hy])) h2 m' e
 | case3 x r m hv c hf he =>
  intro _ _ m' e
  rw [fh,if_pos hv,hf] at e
  simp only [if_neg he] at e
  cases e
 | case4 x r m hv hf ih =>
  intro h1 h2 m' e
  rw [fh,if_pos hv,hf] at e
  refine ih (fun y hy=>h1 y (by simp [hy])) (fun b hb=>?_) m' e
  rcases aW.1 hb with hb | hb
  ·exact h2 b hb
  ·rw [aN.1 hb];exact h1 x (by simp)
 | case5 x r m hv hc =>
  intro _ _ m' e
  rw [fh,if_neg hv,if_pos hc] at e
  cases e
 | case6 x r m hv hc ih =>
  intro h1 h2 m' e
  rw [fh,if_neg hv,if_neg hc] at e
  refine ih (fun y hy=>?_) h2 m' e
  rcases aW.1 hy with hy | hy
  ·exact ha _ (h1 x (by simp)) _ (cW (cO.1 hy)).2
  ·exact h1 y (by simp [hy])
def G5 (m:List Bd):Prop:=∀ x∈m,x.t.size<99999999
theorem OI {b m:List Bd} {p t:Tm} (hb:G5 b) (ht:t.size<99999999) (h:kU b p t=some m):G5 m :=
 Yzu (Q:=fun t=>t.size<99999999) (fun t h u hu=>by have:=sT hu;have:=ov t;omega) _ _ (fun x hx=>by rw [aN.1 hx];exact ht) hb m h
def vD (l:Li):Prop:=(l.l.fit∧l.l.size<99999999)∧l.r.fit∧l.r.size<99999999
theorem E3:∀ (σ τ:ai),ic σ (σ++τ)
 | [],τ=>by cases τ<;>trivial
 | x :: σ,τ=>⟨.inl rfl,E3 σ τ⟩
set_option maxHeartbeats 1000000 in
theorem Tt (b0 b1 b2 b3 b4 b5 b6 b7:Option bE) (b:List Bd) (a l:Li) (D:ae) (F:List Bd→Bool) (hs:bt 8 [b0,b1,b2,b3,b4,b5,b6,b7]) (UT:D.low 8) (hb:G5 b) (ha:vD a) (hl:vD l)
  (hD:∀ m,G5 m→aq Tryz.prog D [.pm (fj m) (fO m)] [b0,b1,b2,b3,b4,b5,b6,b7] (fun r σ'=>r = .bool (F m)∧σ'=[b0,b1,b2,b3,b4,b5,b6,b7])) :
  aq Tryz.prog (.fn 91 [] []) [.pm (fj b) (fO b),a.aO,l.aO,D] [b0,b1,b2,b3,b4,b5,b6,b7] (fun r σ'=>r = .bool (lz b a l F)∧σ'=[b0,b1,b2,b3,b4,b5,b6,b7]):=by
 have jY:∀ n,8≤n→D.low n∧bt n [b0,b1,b2,b3,b4,b5,b6,b7]:=fun n hn=>⟨mQ hn UT,nx hn hs⟩
 have tO:=jY 10 (by decide)
 have wJ:=jY 11 (by decide)
 have Nk:=hs
 simp only [wy,EZ,and_true] at tO wJ Nk
 refine aq.begin (rs:=[.tmp 8]) (m:=52) 1000 Tryz.func91 rfl rfl rfl rfl rfl ?_
 have hend:∀ (z:Bool) (τ:ai),z=lz b a l F→mz (fun r σ'=>r = .bool (lz b a l F)∧σ'=[b0,b1,b2,b3,b4,b5,b6,b7]) 8 (.bool z) ([b0,b1,b2,b3,b4,b5,b6,b7]++τ):=fun z τ hz=>by
  rw [fL]
  exact ⟨[b0,b1,b2,b3,b4,b5,b6,b7],E3 _ _,ah _,hs,trivial,by rw [hz],rfl⟩
 simp only [go_sem,ky]
 refine aK.draw [] 10 10 mixed rfl rfl (by decide) ?_
 simp only [go_sem,dx]
 refine ny (Uc a) (by simp only [Li.aO,Li.cs];exact cE _ _ _) (by simp [go_sem,mR]) ?_
 simp only [go_sem,dx]
 refine ny (Uc l) (by simp only [Li.aO,Li.cs];exact cE _ _ _) (by simp [go_sem,mR]) ?_
 have hW:lz b a l F=if kK a≠kK l then false else ke b a l.l l.r F||ke b a l.r l.l F:=rfl
 obtain ⟨W,IX⟩:∃ W,lz b a l F=W:=⟨_,rfl⟩
 rw [IX] at hend hW ⊢
 by_cases hk:kK a=kK l
 case neg =>
  rw [if_pos hk] at hW
  subst hW
  have qG:(kK a==kK l)=false:=by simpa using hk
  simp only [go_sem,qG]
  refine aK.go 1000 ?_
  simp only [go_sem]
  exact hend _ _ rfl
 rw [if_neg (fun k=>k hk)] at hW
 have qG:(kK a==kK l)=true:=by simpa using hk
 simp only [go_sem,qG]
 refine aK.go 1000 ?_
 simp only [go_sem,List.range_zero,bh,bj,aF,aS,fm,dk]
 have Nd:∀ i:Nat,i<2→∃ x y:Tm,([ae.agg [.int .i64 l.l.head, .ps 2 (l.l.args.map Tm.aO), .int .i64 l.r.head, .ps 2 (l.r.args.map Tm.aO)], .agg [.int .i64 l.r.head, .ps 2 (l.r.args.map Tm.aO), .int .i64 l.l.head, .ps 2 (l.l.args.map Tm.aO)]]).getD i .undef = .agg [.int .i64 x.head, .ps 2 (x.args.map Tm.aO), .int .i64 y.head, .ps 2 (y.args.map Tm.aO)] ∧
   (if i=0 then ke b a l.l l.r F||ke b a l.r l.l F else if i=1 then ke b a l.r l.l F else false)=(ke b a x y F||if i+1=0 then ke b a l.l l.r F||ke b a l.r l.l F else if i+1=1 then ke b a l.r l.l F else false)∧x.size<99999999∧y.size<99999999:=fun i hi=>by
  rcases (show i=0∨i=1 by omega) with rfl | rfl
  ·exact ⟨l.l,l.r,rfl,by simp,hl.1.2,hl.2.2⟩
  ·exact ⟨l.r,l.l,rfl,by simp,hl.2.2,hl.1.2⟩
 have h0:W=if 0=0 then ke b a l.l l.r F||ke b a l.r l.l F else if 0=1 then ke b a l.r l.l F else false:=hW
 have hRl:([ae.agg [.int .i64 l.l.head, .ps 2 (l.l.args.map Tm.aO), .int .i64 l.r.head, .ps 2 (l.r.args.map Tm.aO)], .agg [.int .i64 l.r.head, .ps 2 (l.r.args.map Tm.aO), .int .i64 l.l.head, .ps 2 (l.l.args.map Tm.aO)]]).length=2:=rfl
 have IU:∀ n,bx n ([ae.agg [.int .i64 l.l.head, .ps 2 (l.l.args.map Tm.aO), .int .i64 l.r.head, .ps 2 (l.r.args.map Tm.aO)], .agg [.int .i64 l.r.head, .ps 2 (l.r.args.map Tm.aO), .int .i64 l.l.head, .ps 2 (l.l.args.map Tm.aO)]]):=fun n=>by simp [go_sem,bQ]
 generalize ([ae.agg [.int .i64 l.l.head, .ps 2 (l.l.args.map Tm.aO), .int .i64 l.r.head, .ps 2 (l.r.args.map Tm.aO)], .agg [.int .i64 l.r.head, .ps 2 (l.r.args.map Tm.aO), .int .i64 l.l.head, .ps 2 (l.l.args.map Tm.aO)]])=R at *
 refine aK.c_ (ι:={i:Nat // i≤2∧W=if i=0 then ke b a l.l l.r F||ke b a l.r l.l F else if i=1 then ke b a l.r l.l F else false}) 1000
  (fun q=>fG 56 [(0, .pm (fj b) (fO b)),(3,D),(5, .ptr 8 0),(8, .bool false),(28, .os 10 0 2 4),(29, .int .i64 2),(30, .int .i64 q.1)])
  (fun _=>[b0,b1,b2,b3,b4,b5,b6,b7,some (.var [.bool a.neg, .int .i64 a.l.head, .ps 2 (a.l.args.map Tm.aO), .int .i64 a.r.head, .ps 2 (a.r.args.map Tm.aO)]),none,some (.row R 0)]) (fun q=>2 - q.1) ⟨0,by decide,h0⟩ ?_ (fun _=>by simp) ?_
 ·simp only [go_sem,wy,wJ,w9,bQ,iD,IU]
  exact ⟨rfl,trivial⟩
 ·rintro ⟨i,hi,aP⟩
  by_cases bD:(i:Int)<2
  case neg =>
   have dP:i=2:=by omega
   subst dP
   have hWf:false=W:=by rw [aP];rfl
   simp only [go_sem,bD]
   refine aK.go 1000 ?_
   simp only [go_sem]
   exact hend _ _ hWf
  have aZ:i<2:=by omega
  have hw:IntKind.i64.wrap ((i:Int)+1)=((i+1:Nat):Int):=by rw [ek (by omega)];omega
  obtain ⟨x,y,hx,hr,v7,BJ⟩:=Nd i aZ
  rw [hr] at aP
  have nT:ke b a x y F=false→W=if i+1=0 then ke b a l.l l.r F||ke b a l.r l.l F else if i+1=1 then ke b a l.r l.l F else false:=fun h=>by rw [aP,h,dn]
  have zp:ke b a x y F=match kU b a.l x with | none=>false | some m=>match kU m a.r y with | none=>false | some k=>F k:=rfl
  have c1:=Uy b a.l x ha.1.1 ha.1.2 v7 hb
  simp only [go_sem,bD,hRl,hx]
  refine ⟨by omega,by omega,by decide,?_⟩
  refine aq.bU [] (c1) (by (try simp only [dc]);exact cE _ _ _) (by simp [go_sem,dC,bQ,iD]) ?_;rw [jb];simp only [ite_self];refine aK.go 1000 ?_
  cases h1:kU b a.l x with
  | none =>
   rw [h1] at zp
   simp only [go_sem,mapA]
   refine ⟨⟨i+1,by omega,nT zp⟩,?_,by simp only;omega⟩
   simp only [go_sem,wy,wJ,w9,bQ,iD,IU,hw]
   trivial
  | some m =>
   have hm:=OI hb v7 h1
   rw [h1] at zp
   simp only at zp
   have c2:=Uy m a.r y ha.2.1 ha.2.2 BJ hm
   simp only [go_sem,mapA]
   (repeat ((with_reducible refine And.intro ?_ ?_); ·omega))
   refine aq.bU [] (c2) (by (try simp only [dc]);exact cE _ _ _) (by simp [go_sem,dC,bQ,iD]) ?_;rw [jb];simp only [ite_self];refine aK.go 1000 ?_
   cases h2:kU m a.r y with
   | none =>
    rw [h2] at zp
    simp only [go_sem,mapA]
    refine ⟨⟨i+1,by omega,nT zp⟩,?_,by simp only;omega⟩
    simp only [go_sem,wy,wJ,w9,bQ,iD,IU,hw]
    trivial
   | some k =>
    have er:=OI hm BJ h2
    rw [h2] at zp
    simp only at zp
    simp only [go_sem,mapA]
    refine aq.tail (σ:=[b0,b1,b2,b3,b4,b5,b6,b7]) (τ:=[some (.var [.bool a.neg, .int .i64 a.l.head, .ps 2 (a.l.args.map Tm.aO), .int .i64 a.r.head, .ps 2 (a.r.args.map Tm.aO)]),none,some (.row R 0),some (.var [.int .i64 x.head, .ps 2 (x.args.map Tm.aO), .int .i64 y.head, .ps 2 (y.args.map Tm.aO)])]) UT (by simp [go_sem,iD]) hs ((hD k er).mono ?_)
    rintro r σ' ⟨rfl,rfl⟩
    refine ⟨rfl,?_⟩
    simp only [bj,bh]
    cases hF:F k with
    | true =>
     refine aK.go 1000 ?_
     simp only [go_sem]
     refine aK.go 1000 ?_
     simp only [go_sem]
     exact hend _ _ (by rw [aP,zp,hF,fH])
    | false =>
     refine aK.go 1000 ?_
     simp only [go_sem]
     refine ⟨⟨i+1,by omega,nT (by rw [zp,hF])⟩,?_,by simp only;omega⟩
     simp only [go_sem,wy,wJ,w9,bQ,iD,IU,hw]
     trivial
def mZ (d:List Li) (us:List Bool):ai:=[some (.row (f_ us) 0),some (.var [.ps 5 (lits d), .os 0 0 d.length 1])]
theorem Hw (l:List Bool) (i:Nat) (b:Bool):(f_ l).set i (.bool b)=f_ (l.set i b):=by simp [f_,List.map_set]
theorem Ed (d:List Li) (us:List Bool) {n:Nat} (h : 2≤n):bt n (mZ d us):=by
 unfold mZ
 refine ⟨rB us,⟨cr d,show 0<n by omega,trivial⟩,trivial⟩
section
variable {P:Program} {lo:Ctx} {Q:b9→St→Prop} {k:List KI} {ops:Array Oper} {l:List Oper} {fs:List Fp} {tm:List ae} {σ m:ai}
theorem Rq {d:Option Tmp} {f:ae} {args:List ae} {wr:List Nat} (r:ae) (hc:aq P f args m (fun r' σ'=>r'=r∧σ'=m)) (h:im P lo Q k ops l fs (put tm d r) (dB wr 0 m σ)):rS P lo Q k ops wr d l fs tm σ m f args :=
 ⟨r,m,hc,zC wr m 0,h⟩
end
theorem Yk9 (d:List Li) (a:Li) (c:List Li) (us:List Bool) (b:List Bd) (o:Option bE) (z:Bool) (ho:jg 8 o) (gK:c.length<1000000)
  (hA:aq Tryz.prog (.fn 55 [] []) [.ptr 1 0, .ps 5 (lits c), .pm (fj b) (fO b)] (mZ d us) (fun r σ'=>r = .bool z∧σ'=mZ d us)) :
  aq Tryz.prog (.fn 92 [] [.ptr 2 0, .ptr 3 0]) [.pm (fj b) (fO b)] [some (.row (f_ us) 0),some (.var [.ps 5 (lits d), .os 0 0 d.length 1]),some (.var [.ptr 1 0]),some (.var [.ps 5 (lits (a :: c))]),o,none,none,none]
   (fun r σ'=>r = .bool z∧σ'=[some (.row (f_ us) 0),some (.var [.ps 5 (lits d), .os 0 0 d.length 1]),some (.var [.ptr 1 0]),some (.var [.ps 5 (lits (a :: c))]),o,none,none,none]):=by
 refine aq.begin (rs:=[.tmp 4]) (m:=7) 1000 Tryz.func92 rfl rfl rfl rfl rfl ?_
 have yn:List.drop 1 (lits (a :: c))=lits c:=rfl
 simp only [go_sem]
 refine aK.draw [] 8 8 mixed rfl rfl (by decide) ?_
 simp only [go_sem,dx,fP,ax,yn]
 have rZ:List.take (c.length+1 - 1) (lits c)=lits c:=a_ (by rw [fP];omega)
 rw [rZ]
 (repeat ((with_reducible refine And.intro ?_ ?_); ·omega))
 refine Rq (.bool z) ?_ ?_
 ·refine aq.tail (σ:=mZ d us) (τ:=[some (.var [.ptr 1 0]),some (.var [.ps 5 (lits (a :: c))]),o,none,none,none]) ⟨trivial,trivial⟩ ⟨ja,cr _,⟨(iD b).1,(iD b).2⟩ ,trivial⟩ (Ed d us (ah _)) (hA.mono ?_)
  rintro r σ' ⟨rfl,rfl⟩
  exact ⟨rfl,rfl,rfl⟩
 simp only [go_sem]
 refine aK.go 1000 ?_
 simp only [go_sem]
 rw [fL]
 exact ⟨_,fx _,ah _,by simp [go_sem,rB,cr,wy,w9,ho];trivial,trivial,rfl,rfl⟩
set_option maxHeartbeats 1000000 in
theorem LA (d:List Li) (hd:∀ l∈d,vD l) (xV:d.length<1000000):∀ (c:List Li) (us:List Bool) (b:List Bd),us.length=d.length→(∀ a∈c,vD a)→c.length<1000000→G5 b →
  aq Tryz.prog (.fn 55 [] []) [.ptr 1 0, .ps 5 (lits c), .pm (fj b) (fO b)] (mZ d us) (fun r σ'=>r = .bool (l6 d c us b)∧σ'=mZ d us)
 | [],us,b,hu,hc,gK,hb=>by
  unfold mZ
  refine aq.begin (rs:=[.tmp 6]) (m:=57) 1000 Tryz.func55 rfl rfl rfl rfl rfl ?_
  simp only [go_sem,fP,aR]
  rw [fL]
  exact ⟨mZ d us,E3 (mZ d us) _,ah _,Ed d us (ah _),trivial,by rw [l6],rfl⟩
 | a :: c,us,b,hu,hc,gK,hb=>by
  unfold mZ
  refine aq.begin (rs:=[.tmp 6]) (m:=57) 1000 Tryz.func55 rfl rfl rfl rfl rfl ?_
  have eg:¬ ((c.length+1:Nat):Int)=0:=by omega
  obtain ⟨W,hW⟩:∃ W,l6 d (a :: c) us b=W:=⟨_,rfl⟩
  rw [hW]
  have hend:∀ (z:Bool) (EH:List Bool) (τ:ai),z=W→EH=us→mz (fun r σ'=>r = .bool W∧σ'=mZ d us) 2 (.bool z) (mZ d EH++τ):=fun z EH τ hz hu=>by
   rw [fL,hz,hu]
   exact ⟨mZ d us,E3 _ _,ah _,Ed d us (ah _),trivial,rfl,rfl⟩
  unfold mZ at hend
  have xX:∀ τ:ai,(some (.row (f_ us) 0)) :: (some (.var [.ps 5 (lits d), .os 0 0 d.length 1])) :: τ=mZ d us++τ:=fun τ=>rfl
  rw [l6] at hW
  obtain ⟨f,hf⟩:∃ f:Nat→Bool,(fun k=>!us.getD k false&&decide ((d.getD k jz).neg=a.neg)&&lz b a (d.getD k jz) fun m=>l6 d c (us.set k true) m)=f:=⟨_,rfl⟩
  rw [hf] at hW
  have hak:=hc a (by simp)
  simp only [go_sem,fP,ax,eg]
  refine aK.c_ (ι:={k:Nat // k≤d.length∧((List.range d.length).drop k).any f=W}) 1000
   (fun q=>fG 60 [(2, .pm (fj b) (fO b)),(3, .ptr 2 0),(4, .ptr 3 0),(6, .bool false),(16, .ps 5 (lits d)),(17, .int .i64 d.length),(18, .int .i64 q.1)])
   (fun _=>[some (.row (f_ us) 0),some (.var [.ps 5 (lits d), .os 0 0 d.length 1]),some (.var [.ptr 1 0]),some (.var [.ps 5 (lits (a :: c))])]) (fun q=>d.length - q.1) ⟨0,av _,by simpa using hW⟩ ?_ (fun _=>by simp) ?_
  ·simp only [go_sem,rB,cr,iD]
  ·rintro ⟨k,hk,aP⟩
   by_cases bD:(k:Int)<d.length
   case neg =>
    have dP:k=d.length:=by omega
    subst dP
    rw [o9 (by simp),mG] at aP
    simp only [go_sem,bD]
    refine aK.go 1000 ?_
    simp only [go_sem]
    exact hend _ us [some (.var [.ptr 1 0]),some (.var [.ps 5 (lits (a :: c))])] aP rfl
   have aZ:k<d.length:=by omega
   have hw:IntKind.i64.wrap ((k:Int)+1)=((k+1:Nat):Int):=by rw [ek (by omega)];omega
   have g1:=tu aZ
   have g2:=HS (l:=us) (i:=k) (by omega)
   have g3:(lits (a :: c)).getD 0 .undef=a.aO:=rfl
   have gd:d.getD k jz=d[k]:=by simp [List.getD,aZ]
   have Ms:=hd _ (aE aZ)
   rw [ao (by simpa using aZ),dX,mL] at aP
   have u0:f k=(!us.getD k false&&decide (d[k].neg=a.neg)&&lz b a d[k] fun m=>l6 d c (us.set k true) m):=by rw [← hf];simp only [gd]
   generalize d[k]=l at *
   simp only [go_sem,bD,fP,g1,ky]
   refine ⟨by omega,?_⟩
   have wT:(k:Int)<us.length:=by omega
   have Et:f k=false→(List.drop (k+1) (List.range d.length)).any f=W:=fun h=>by rw [h,dn] at aP;exact aP
   refine aK.draw [] 5 5 mixed rfl rfl (by decide) ?_
   cases yq:us.getD k false with
   | true =>
    rw [yq] at g2 u0
    simp only [go_sem,dx,g2,B6,hu,g3,ky,bD]
    (repeat ((with_reducible refine And.intro ?_ ?_); ·omega))
    refine aK.go 1000 ?_
    simp only [go_sem]
    refine ⟨⟨k+1,by omega,Et (by rw [u0];simp)⟩,?_,by simp only;omega⟩
    simp only [go_sem,rB,cr,iD,hw]
   | false =>
    rw [yq] at g2 u0
    cases fN:(l.neg==a.neg) with
    | false =>
     have Au:decide (l.neg=a.neg)=false:=by simpa using fN
     simp only [go_sem,dx,g2,B6,hu,g3,ky,bD,fN,fP,ax]
     (repeat ((with_reducible refine And.intro ?_ ?_); ·omega))
     refine aK.go 1000 ?_
     simp only [go_sem]
     refine ⟨⟨k+1,by omega,Et (by rw [u0,Au];simp)⟩,?_,by simp only;omega⟩
     simp only [go_sem,rB,cr,iD,hw]
    | true =>
     have Au:decide (l.neg=a.neg)=true:=by simpa using fN
     rw [Au] at u0
     simp only [Bool.not_false,ct] at u0
     simp only [go_sem,dx,g2,B6,hu,g3,ky,bD,fN,fP,ax]
     (repeat ((with_reducible refine And.intro ?_ ?_); ·omega))
     refine aK.go 1000 ?_
     simp only [go_sem,B6,hu,g2,Hw]
     have yr:(us.set k true).length=d.length:=by rw [bg];exact hu
     have qB:(us.set k true).set k false=us:=by
      rw [List.set_set]
      refine List.ext_getElem (by simp) fun i h1 h2=>?_
      rw [List.getElem_set]
      split
      ·rename_i e;subst e;simpa [List.getD,h2] using yq.symm
      ·rfl
     have FW:=Tt (some (.row (f_ (us.set k true)) 0)) (some (.var [.ps 5 (lits d), .os 0 0 d.length 1])) (some (.var [.ptr 1 0])) (some (.var [.ps 5 (lits (a :: c))])) (some (.var [.bool l.neg, .int .i64 l.l.head, .ps 2 (l.l.args.map Tm.aO), .int .i64 l.r.head, .ps 2 (l.r.args.map Tm.aO)])) none none none b a l (.fn 92 [] [.ptr 2 0, .ptr 3 0]) (fun m=>l6 d c (us.set k true) m)
      (by simp [go_sem,rB,cr,bQ]) (by simp [go_sem]) hb hak Ms (fun m hm=>Yk9 d a c _ m (some (.var [.bool l.neg, .int .i64 l.l.head, .ps 2 (l.l.args.map Tm.aO), .int .i64 l.r.head, .ps 2 (l.r.args.map Tm.aO)])) _ (by simp [go_sem,bQ,w9]) (by simp only [ax] at gK;omega) (LA d hd xV c (us.set k true) m yr (fun x hx=>hc x (by simp [hx])) (by simp only [ax] at gK;omega) hm))
     rw [← u0] at FW
     have g4:(f_ (us.set k true)).getD k .undef = .bool true:=by rw [HS (by omega)];simp [List.getD,show k<us.length by omega]
     generalize us.set k true=BT at *
     refine ⟨by omega,by omega,?_⟩
     refine aK.draw [] 5 5 mixed rfl rfl (by decide) ?_
     simp only [go_sem,dx,g3,ky,fP,ax]
     (repeat ((with_reducible refine And.intro ?_ ?_); ·omega))
     refine Rq (.bool (f k)) (aq.pad 3 ?_) ?_
     ·have e1:∀ x:Li,ae.agg [.bool x.neg, .int .i64 x.l.head, .ps 2 (x.l.args.map Tm.aO), .int .i64 x.r.head, .ps 2 (x.r.args.map Tm.aO)]=x.aO:=fun _=>rfl
      simp only [e1]
      refine FW.mono ?_
      rintro r σ' ⟨rfl,rfl⟩
      rw [fL]
      exact ⟨_,E3 [_,_,_,_,_] [none,none,none],ah _,by simp [go_sem,rB,cr,bQ],trivial,rfl,rfl⟩
     simp only [go_sem]
     refine aK.go 1000 ?_
     simp only [go_sem,B6,yr,g4,Hw,qB]
     (repeat ((with_reducible refine And.intro ?_ ?_); ·omega))
     refine ⟨fun CM=>?_,fun CM=>?_⟩
     ·refine aK.go 1000 ?_
      simp only [go_sem]
      exact hend _ us [some (.var [.ptr 1 0]),some (.var [.ps 5 (lits (a :: c))]),some (.var [.bool l.neg, .int .i64 l.l.head, .ps 2 (l.l.args.map Tm.aO), .int .i64 l.r.head, .ps 2 (l.r.args.map Tm.aO)])] (by rw [← aP,CM,fH]) rfl
     ·refine ⟨⟨k+1,by omega,Et CM⟩,?_,by simp only;omega⟩
      simp only [go_sem,rB,cr,iD,hw]
def kN (c:List Li):Prop:=(∀ l∈c,vD l)∧c.length<1000000
theorem IC {c:List Li} (h:kN c):Dr c:=⟨fun l hl=>by
 obtain ⟨⟨_,a⟩,_,b⟩:=h.1 l hl
 exact ⟨by omega,by omega⟩,by have:=h.2;omega⟩
theorem QE (d:List Li):List.replicate d.length (ae.bool false)=f_ (ia d):=W2 _
set_option maxHeartbeats 1000000 in
theorem Uz (c d:List Li) (hc:kN c) (hd:kN d):aJ Tryz.prog 21 [.ps 5 (lits c), .ps 5 (lits d)] (.dz [.bool (jl c d).1, .int .i64 (jl c d).2]):=by
 refine aJ.begin (rs:=[.tmp 4, .tmp 5]) (m:=28) 1000 Tryz.func21 rfl rfl rfl (by decide) ⟨trivial,trivial,trivial⟩ ?_
 have hW:=Sj [c,d] (fun x hx=>by
  simp only [aQ,en,or_false] at hx
  rcases hx with rfl | rfl
  ·exact IC hc
  ·exact IC hd) (by simp)
 rw [T6] at hW
 have hF:jl c d=if jr c d≠0 then (false,jr c d) else (pS c d,0):=rfl
 rw [hF]
 simp only [go_sem]
 refine aq.bU [0] hW ?_ (by simp [go_sem,fe]) ?_
 ·simp only [go_sem,cX,aF,aS]
 simp only [bO,bX,bW,if_true]
 refine aK.go 1000 ?_
 by_cases h0:jr c d=0
 case neg =>
  rw [if_pos h0]
  simp only [go_sem,h0]
 rw [if_neg (fun k=>k h0)]
 unfold pS
 by_cases hl:d.length<c.length
 ·have h1:(d.length:Int)<c.length:=by omega
  have h2:decide (c.length≤d.length)=false:=by simp;omega
  rw [h2]
  simp only [go_sem,h0,fP,h1]
 have h1:¬ (d.length:Int)<c.length:=by omega
 have h2:decide (c.length≤d.length)=true:=by simp;omega
 rw [h2,ct]
 have xV:=hd.2
 simp only [go_sem,h0,fP,h1,QE]
 refine ⟨by omega,?_⟩
 refine aq.Ac (q:=3) rfl ?_
 simp only [go_sem,aF,aS,cZ,de]
 have hI:∀ b,b<2→b=0∨b=1:=fun b hb=>by omega
 refine aq.l9 (Z:=mZ d (ia d)) (f:=.fn 55 [] []) (args:=[.ptr 1 0, .ps 5 (lits c), .pm (fj []) (fO [])]) (fun b=>b+1) (fun b b' h1 h2 e=>by omega) (fun b hb=>by have:b<2:=hb;simp;omega) (fun b hb=>?_) ⟨trivial,trivial⟩ rfl ⟨ja,cr _,⟨trivial,trivial⟩,trivial⟩ ?_ (Ed d _ (ah _))
  (LA d hd.1 hd.2 c (ia d) [] (by simp [ia]) hc.1 hc.2 (fun x hx=>by cases hx)) ?_
 ·rcases hI b hb with rfl | rfl
  ·exact ⟨_,rfl,by simp [go_sem,cD (rB _)]⟩
  ·exact ⟨_,rfl,by simp [go_sem,cD (cr _)]⟩
 ·simp [go_sem,cD (cr _),fj,fO]
 ·rintro r Z' ⟨rfl,rfl⟩
  refine ⟨ah _,Ed d _ (ah _),trivial,?_⟩
  simp only [go_sem,mZ,jJ,e9,mY,aF,aS,cD (rB _),cD (cr _)]
  refine aK.go 1000 ?_
  simp only [go_sem]
end Go.Proofs
namespace Go.c8
open Go
section
variable {P:Program} {lo:Ctx} {Q:b9→St→Prop} {tm:List ae} {σ:ai}
theorem Ym3 {X:Nat→Nat→Prop} {base mb:Nat} {D:List Deferred} {β:Env} {a:Act} {w:World} (bs:List Nat) (i:Nat) (t:ae) (hi:i<tm.length) (hp:pT (among bs) σ t (tm.getD i .undef)) (h3:Rel X base mb D ⟨tm,σ⟩ β a w) :
  Rel X base mb D ⟨tm.set i t,fM (among bs) 0 σ⟩ β a w:=by
 have nS:=zJ (among bs) σ
 have xj:=h3.s.oi nS.oi
 obtain ⟨_,e2⟩:=tv xj nS [t] (cj:=[tm.getD i .undef]) (by rw [E5];exact ⟨hp,by rw [Ob];trivial⟩)
 refine ⟨xj,by simpa using h3.n,fun k hk=>?_,h3.d⟩
 have hr:=(h3.t k (by simpa using hk)).mono (A7 nS.oi) (fun _ _ h=>h)
 by_cases e:i=k
 ·subst e
  have:=(e2 0 (by simp)).1 _ hr
  simpa [List.getD,hi] using this
 ·simpa [List.getD,dR,e] using hr
theorem Ylm {n:Nat} {β β':Env} {w w':World} {σ':ai} (bs:List Nat) (g3:Ext n (fM (among bs) 0 σ) β w σ' β' w'):Ext n σ β w σ' β' w':=by
 have hf:=(zJ (among bs) σ).oi
 exact ⟨g3.os,g3.tape,g3.output,g3.size,fun g o v hc hn=>g3.cell g o v hc fun hm=>hn (hm.oi hf),fun g hg hn=>g3.block g hg fun o hm=>hn o (hm.oi hf),fun g o hm=>(g3.iB g o hm).imp (fun h=>h.oi hf) id,g3.env⟩
theorem aK.tell {all:Array Oper} {l:List Oper} {k:List KI} (bs:List Nat) (i:Nat) (t:ae) (hi:i<tm.length) (hp:pT (among bs) σ t (tm.getD i .undef)) (he:aK P lo Q (.ops all l :: k) .normal ⟨tm.set i t,fM (among bs) 0 σ⟩):aK P lo Q (.ops all l :: k) .normal ⟨tm,σ⟩:=by
 simp only [aK] at he ⊢
 refine fun hs=>?_
 intro X base mb D β a w b k cs h1 h2 h3
 obtain ⟨e1,kb,eO,a1,w1,q,g1,g2,g3,g4⟩:=(he hs) X base mb D β a w b k cs (by simpa [HY] using h1) h2 (Ym3 bs i t hi hp h3)
 exact ⟨e1,kb,eO,a1,w1,q,g1,g2,Ylm bs g3,g4⟩
end
end Go.c8
namespace Go.Proofs
open Go Go.c8
attribute [local go_sem] Nat.reduceAdd Nat.reduceSub Nat.reduceMul Nat.reduceLeDiff Nat.reduceEqDiff Nat.reduceBEq Nat.reduceLT Nat.le_refl Int.natCast_zero Nat.sub_zero List.length_map Int.toNat_natCast Int.natCast_one Int.reduceEq Int.reduceLT Int.reduceLE Int.reduceNe Int.sub_zero Int.zero_add Int.toNat_one
theorem Yr6 (d c:List Li) (us:List Bool) (b:List Bd) (o4 o5:Option bE) (z:Bool) (h4:jg 8 o4) (h5:jg 8 o5)
  (hA:aq Tryz.prog (.fn 55 [] []) [.ptr 1 0, .ps 5 (lits c), .pm (fj b) (fO b)] (mZ d us) (fun r σ'=>r = .bool z∧σ'=mZ d us)) :
  aq Tryz.prog (.fn 111 [] [.ptr 2 0, .ptr 3 0]) [.pm (fj b) (fO b)] [some (.row (f_ us) 0),some (.var [.ps 5 (lits d), .os 0 0 d.length 1]),some (.var [.ptr 1 0]),some (.var [.ps 5 (lits c)]),o4,o5,none,none]
   (fun r σ'=>r = .bool z∧σ'=[some (.row (f_ us) 0),some (.var [.ps 5 (lits d), .os 0 0 d.length 1]),some (.var [.ptr 1 0]),some (.var [.ps 5 (lits c)]),o4,o5,none,none]):=by
 refine aq.begin (rs:=[.tmp 4]) (m:=6) 1000 Tryz.func111 rfl rfl rfl rfl rfl ?_
 simp only [go_sem]
 refine aq.tail (σ:=mZ d us) (τ:=[some (.var [.ptr 1 0]),some (.var [.ps 5 (lits c)]),o4,o5,none,none]) ⟨trivial,trivial⟩ ⟨ja,cr _,⟨(iD b).1,(iD b).2⟩,trivial⟩ (Ed d us (ah _)) (hA.mono ?_)
 rintro r σ' ⟨rfl,rfl⟩
 refine ⟨rfl,?_⟩
 simp only [mZ,bj,bh]
 refine aK.go 1000 ?_
 simp only [go_sem]
 rw [fL]
 exact ⟨_,fx _,ah _,by simp [go_sem,rB,cr,wy,w9,h4,h5];trivial,trivial,rfl,rfl⟩
set_option maxHeartbeats 2000000 in
theorem Ypn (c d:List Li) (hc:kN c) (hd:kN d):aJ Tryz.prog 70 [.ps 5 (lits c), .ps 5 (lits d)] (.dz [.int .i64 (og c d).1, .bool (og c d).2.1, .int .i64 (og c d).2.2]):=by
 refine aJ.begin (rs:=[.tmp 4, .tmp 5, .tmp 6]) (m:=72) 1000 Tryz.func70 rfl rfl rfl (by decide) ⟨trivial,trivial,trivial,trivial⟩ ?_
 have hW:=Sj [c,d] (fun x hx=>by
  simp only [aQ,en,or_false] at hx
  rcases hx with rfl | rfl
  ·exact IC hc
  ·exact IC hd) (by simp)
 rw [T6] at hW
 have hF:og c d=if jr c d≠0 then (0,false,jr c d) else match uT c d with | some k=>((k:Int),true,0) | none=>(0,false,0):=rfl
 rw [hF]
 simp only [go_sem]
 refine aq.bU [0] hW ?_ (by simp [go_sem,fe]) ?_
 ·simp only [go_sem,cX,aF,aS]
 simp only [bO,bX,bW,if_true]
 refine aK.go 1000 ?_
 by_cases h0:jr c d=0
 case neg =>
  rw [if_pos h0]
  simp only [go_sem,h0]
 rw [if_neg (fun k=>k h0)]
 have xV:=hd.2
 have gK:=hc.2
 obtain ⟨p,hp⟩:∃ p:Nat→Bool,(fun k=>(List.range c.length).any fun i=>cutAt c d k i)=p:=⟨_,rfl⟩
 have hB:uT c d=(List.range d.length).find? p:=by unfold uT;rw [hp]
 rw [hB]
 obtain ⟨W,IX⟩:∃ W,(List.range d.length).find? p=W:=⟨_,rfl⟩
 rw [IX]
 have Aw:(ia d).length=d.length:=by simp [ia]
 simp only [go_sem,h0,fP,QE]
 refine ⟨by omega,?_⟩
 refine aK.c_ (ι:={k:Nat // k≤d.length∧((List.range d.length).drop k).find? p=W}) 1000
  (fun q=>fG 74 [(0, .ps 5 (lits c)),(8, .ptr 3 0),(27, .ps 5 (lits d)),(28, .int .i64 d.length),(29, .int .i64 q.1)])
  (fun _=>[none,some (.row (f_ (ia d)) 0),some (.var [.ps 5 (lits d), .os 1 0 d.length 1]),some (.var [.ptr 2 0])]) (fun q=>d.length - q.1) ⟨0,av _,by simpa using IX⟩ ?_ (fun _=>by simp) ?_
 ·simp only [go_sem,rB,cr]
 ·rintro ⟨k,hk,aP⟩
  by_cases bD:(k:Int)<d.length
  case neg =>
   have dP:k=d.length:=by omega
   subst dP
   rw [o9 (by simp),List.find?_nil] at aP
   subst aP
   simp only [go_sem,bD]
   refine aK.go 1000 ?_
   simp only [go_sem]
  have aZ:k<d.length:=by omega
  have hw:IntKind.i64.wrap ((k:Int)+1)=((k+1:Nat):Int):=by rw [ek (by omega)];omega
  have g1:=tu aZ
  have gd:d.getD k jz=d[k]:=by simp [List.getD,aZ]
  have Ms:=hd.1 _ (aE aZ)
  rw [ao (by simpa using aZ),j7,mL] at aP
  have Vn:p k=(List.range c.length).any fun i=>cutAt c d k i:=by rw [← hp]
  have Ml:∀ i,cutAt c d k i=(decide ((c.getD i jz).neg≠d[k].neg)&&lz [] (c.getD i jz) d[k] fun m=>l6 d (c.eraseIdx i) ((ia d).set k true) m):=fun i=>by unfold cutAt;rw [gd]
  have g2:(f_ (ia d)).getD k .undef = .bool false:=by rw [HS (by omega)];simp [ia,List.getD,aZ]
  have wT:(k:Int)<(ia d).length:=by omega
  have yr:((ia d).set k true).length=d.length:=by rw [bg];exact Aw
  have g4:(f_ ((ia d).set k true)).getD k .undef = .bool true:=by rw [HS (by omega)];simp [List.getD,Aw,aZ]
  have qB:((ia d).set k true).set k false=ia d:=by
   rw [List.set_set]
   refine List.ext_getElem (by simp) fun i h1 h2=>?_
   rw [List.getElem_set]
   split
   ·simp [ia]
   ·rfl
  generalize d[k]=l at *
  simp only [go_sem,bD,fP,g1,ky,B6,Aw,g2,Hw]
  (repeat ((with_reducible refine And.intro ?_ ?_); ·omega))
  obtain ⟨V,hV⟩:∃ V,p k=V:=⟨_,rfl⟩
  rw [hV] at aP Vn
  generalize (ia d).set k true=BT at *
  refine aK.c_ (ι:={i:Nat // i≤c.length∧((List.range c.length).drop i).any (cutAt c d k)=V}) 1000
   (fun q=>fG 74 [(0, .ps 5 (lits c)),(8, .ptr 3 0),(9, .int .i64 k),(10, .ptr 4 0),(27, .ps 5 (lits d)),(28, .int .i64 d.length),(29, .int .i64 k),(40, .ps 5 (lits c)),(41, .int .i64 c.length),(42, .int .i64 q.1)])
   (fun _=>[none,some (.row (f_ BT) 0),some (.var [.ps 5 (lits d), .os 1 0 d.length 1]),some (.var [.ptr 2 0]),some (.var [.bool l.neg, .int .i64 l.l.head, .ps 2 (l.l.args.map Tm.aO), .int .i64 l.r.head, .ps 2 (l.r.args.map Tm.aO)])]) (fun q=>c.length - q.1) ⟨0,av _,by simpa using Vn.symm⟩ ?_ (fun _=>by simp) ?_
  ·simp only [go_sem,rB,cr,bQ]
  ·rintro ⟨i,hi,fp⟩
   by_cases zk:(i:Int)<c.length
   case neg =>
    have dP:i=c.length:=by omega
    subst dP
    rw [o9 (by simp),mG] at fp
    rw [← fp] at aP
    simp only [go_sem,zk]
    refine aK.go 1000 ?_
    simp only [go_sem,B6,yr,g4,Hw,qB]
    (repeat ((with_reducible refine And.intro ?_ ?_); ·omega))
    refine ⟨⟨k+1,by omega,aP⟩,?_,by simp only;omega⟩
    simp only [go_sem,rB,cr,hw]
   have ve:i<c.length:=by omega
   have Ja:IntKind.i64.wrap ((i:Int)+1)=((i+1:Nat):Int):=by rw [ek (by omega)];omega
   have gc1:=tu ve
   have gcd:c.getD i jz=c[i]:=by simp [List.getD,ve]
   have Bo:=hc.1 _ (aE ve)
   rw [ao (by simpa using ve),dX,mL,Ml,gcd] at fp
   generalize c[i]=a at *
   have eg:c≠[]:=by rintro rfl;simp at ve
   simp only [go_sem,zk,fP,gc1,ky,Ja]
   (repeat ((with_reducible refine And.intro ?_ ?_); ·omega))
   refine aq.sI [] (Hs c eg (by omega)) (cE _ _ _) ⟨cr _,trivial⟩ ?_
   rw [jb]
   simp only [zO,zQ,zU,w_,zW,up,cD (cr _)]
   refine aK.go 1000 ?_
   simp only [go_sem,bj,bh,Ja]
   refine aq.z6 (f:=.fn 71 [] []) (args:=[.os 0 0 c.length 5, .int .i64 i, .int .i64 ((i+1:Nat):Int)]) (B:=.row (lits c) 0) 7 rfl (cr _) ⟨trivial,trivial⟩ ⟨cm,trivial,trivial,trivial⟩ ((J2 c i ve (by omega)).mono ?_)
   rintro r σ' ⟨rfl,rfl⟩
   refine ⟨cm,_,rfl,cr _,?_⟩
   have Mx:c.take i++c.drop (i+1)=c.eraseIdx i:=(List.eraseIdx_eq_take_drop_succ c i).symm
   have iR:(c.eraseIdx i).length=c.length - 1:=mM ve
   rw [Mx]
   simp only [go_sem,cZ,de]
   refine aK.tell [7] 52 (.ps 5 (lits (c.eraseIdx i))) (by simp) ?_ ?_
   ·simp only [go_sem,bB,bf,fP,iR]
    rw [a_ (by rw [fP,iR];exact ah _)]
    exact cE _ _ _
   simp only [go_sem,cZ,de]
   refine aK.go 1000 ?_
   cases fN:(a.neg==l.neg) with
   | true =>
    have Au:decide (a.neg≠l.neg)=false:=by simpa using fN
    rw [Au,db,dn] at fp
    simp only [go_sem,fN]
    refine ⟨⟨i+1,by omega,fp⟩,?_,by simp only;omega⟩
    simp only [go_sem,rB,cr,bQ,Ja]
   | false =>
    have Au:decide (a.neg≠l.neg)=true:=by simpa using fN
    rw [Au,ct] at fp
    simp only [go_sem,fN]
    have FW:=Tt (some (.row (f_ BT) 0)) (some (.var [.ps 5 (lits d), .os 0 0 d.length 1])) (some (.var [.ptr 1 0])) (some (.var [.ps 5 (lits (c.eraseIdx i))])) (some (.var [.bool l.neg, .int .i64 l.l.head, .ps 2 (l.l.args.map Tm.aO), .int .i64 l.r.head, .ps 2 (l.r.args.map Tm.aO)])) (some (.var [.bool a.neg, .int .i64 a.l.head, .ps 2 (a.l.args.map Tm.aO), .int .i64 a.r.head, .ps 2 (a.r.args.map Tm.aO)])) none none [] a l (.fn 111 [] [.ptr 2 0, .ptr 3 0]) (fun m=>l6 d (c.eraseIdx i) BT m)
     (by simp [go_sem,rB,cr,bQ]) (by simp [go_sem]) (fun x hx=>by cases hx) Bo Ms (fun m hm=>Yr6 d (c.eraseIdx i) BT m _ _ _ (by simp [go_sem,bQ,w9]) (by simp [go_sem,bQ,w9]) (LA d hd.1 xV (c.eraseIdx i) BT m yr (fun x hx=>hc.1 x (n6 hx)) (by omega) hm))
    obtain ⟨z,hz⟩:∃ z,(lz [] a l fun m=>l6 d (c.eraseIdx i) BT m)=z:=⟨_,rfl⟩
    rw [hz] at FW fp
    have hI:∀ b,b<8→b=0∨b=1∨b=2∨b=3∨b=4∨b=5∨b=6∨b=7:=fun b hb=>by omega
    refine aq.Ac (q:=9) rfl ?_
    have e1:∀ x:Li,ae.agg [.bool x.neg, .int .i64 x.l.head, .ps 2 (x.l.args.map Tm.aO), .int .i64 x.r.head, .ps 2 (x.r.args.map Tm.aO)]=x.aO:=fun _=>rfl
    simp only [go_sem,aF,aS,cZ,de]
    simp only [e1]
    refine aq.l9 (Z:=[some (.row (f_ BT) 0),some (.var [.ps 5 (lits d), .os 0 0 d.length 1]),some (.var [.ptr 1 0]),some (.var [.ps 5 (lits (c.eraseIdx i))]),some (.var [.bool l.neg, .int .i64 l.l.head, .ps 2 (l.l.args.map Tm.aO), .int .i64 l.r.head, .ps 2 (l.r.args.map Tm.aO)]),some (.var [.bool a.neg, .int .i64 a.l.head, .ps 2 (a.l.args.map Tm.aO), .int .i64 a.r.head, .ps 2 (a.r.args.map Tm.aO)]),none,none]) (f:=.fn 91 [] []) (args:=[.pm (fj []) (fO []),a.aO,l.aO, .fn 111 [] [.ptr 2 0, .ptr 3 0]]) (fun b=>[1,2,3,8,4,5,6,9].getD b 0)
     (fun b b' h1 h2 e=>?_) (fun b hb=>?_) (fun b hb=>?_) ⟨trivial,trivial⟩ rfl ?_ ?_ (by simp [go_sem,rB,cr,bQ]) FW ?_
    ·rcases hI b h1 with rfl | rfl | rfl | rfl | rfl | rfl | rfl | rfl<;>rcases hI b' h2 with rfl | rfl | rfl | rfl | rfl | rfl | rfl | rfl<;>first | rfl | exact absurd e (by decide)
    ·rcases hI b hb with rfl | rfl | rfl | rfl | rfl | rfl | rfl | rfl<;>simp
    ·rcases hI b hb with rfl | rfl | rfl | rfl | rfl | rfl | rfl | rfl<;>exact ⟨_,rfl,by simp [go_sem,cD (rB _),cD (cr _),cD (bQ _)]⟩
    ·simp [go_sem,mR,iD]
    ·simp [go_sem,fj,fO,zK (mR _)]
    ·rintro r Z' ⟨rfl,rfl⟩
     refine ⟨ah _,by simp [go_sem,rB,cr,bQ],trivial,?_⟩
     simp only [go_sem,jJ,e9,mY,aF,aS,cD (rB _),cD (cr _),cD (bQ _),ax,aR,bB,bf]
     cases z with
     | true =>
      rw [fH] at fp
      rw [← fp] at aP
      subst aP
      refine aK.go 1000 ?_
      simp only [go_sem]
      refine aK.go 1000 ?_
      simp only [go_sem]
      refine aK.go 1000 ?_
      simp only [go_sem]
     | false =>
      rw [dn] at fp
      refine aK.go 1000 ?_
      simp only [go_sem]
      refine ⟨⟨i+1,by omega,fp⟩,?_,by simp only;omega⟩
      simp only [go_sem,rB,cr,bQ,Ja]
theorem Zm4 (σ:ai) {b:Nat} (c:ae) (p:Li→Bool) (l:List Li) (hb:bG σ b=eV (lits l)) (hl:l.length<2 ^ 62) (hs:bt σ.length σ) (hc:c.low σ.length)
  (hp:∀ (i:Nat) (h:i<l.length),aq Tryz.prog c [l[i].aO] σ (fun r σ'=>r = .bool (p l[i])∧σ' = σ)) :
  aq Tryz.prog (.fn 63 [] []) [i_ b 5 (lits l),c] σ (fun r σ'=>r = .bool (l.any p)∧σ' = σ):=by
 cases l with
 | nil =>
  refine aq.LK (args':=[.ps 5 (lits []),c]) ?_ (Ha σ c p [] hl hs hc hp)
  rw [E5]
  exact ⟨rfl,cE _ _ _⟩
 | cons a l =>
  have m0:bG σ b=some (.row (lits (a :: l)) 0):=hb
  have yn:i_ b 5 (lits (a :: l)) = .os b 0 (a :: l).length 5:=by rw [← fP (a :: l)];rfl
  rw [yn]
  have bD:=zR m0
  refine aq.begin (rs:=[.tmp 4]) (m:=7) 1000 Tryz.func63 rfl rfl rfl rfl rfl ?_
  simp only [go_sem]
  refine (Qz σ c p (a :: l) m0 hl hs hc hp).mono ?_
  rintro r σ' ⟨rfl,rfl⟩
  refine aK.go 1000 ?_
  simp only [go_sem]
  rw [fL,Ca p (a :: l) 0 (by omega)];exact ⟨σ',fx σ',ah _,hs,trivial,rfl,rfl⟩
theorem wZ {l:Li} (h:vD l):xq l:=⟨by have:=h.1.2;omega,by have:=h.2.2;omega⟩
theorem Qg (l:Li) (h:xq l):aJ Tryz.prog 66 [l.aO] (.bool (nk l)):=by
 refine aJ.begin (rs:=[.tmp 2]) (m:=7) 1000 Tryz.func66 rfl rfl rfl (by decide) trivial ?_
 have h1:=zL l.l l.r (by have:=h.1;omega) (by have:=h.2;omega)
 unfold nk
 simp only [go_sem,ky]
 refine aq.bU [] (h1) (by (try simp only [dc]);exact cE _ _ _) (by simp [go_sem,dC,bQ]) ?_;simp only [bO,bX,bW,if_true];refine aK.go 1000 ?_
 simp only [go_sem]
theorem Zst (a b:Li) (ha:xq a) (hb:xq b):aJ Tryz.prog 105 [a.aO,b.aO] (.bool (vE a b)):=by
 refine aJ.begin (rs:=[.tmp 4]) (m:=13) 1000 Tryz.func105 rfl rfl rfl (by decide) trivial ?_
 have h:=RG a b ha hb
 unfold vE
 cases c:a.neg==b.neg
 ·have hd:decide (a.neg≠b.neg)=true:=by simpa using c
  rw [hd,ct]
  simp only [go_sem,ky,c]
  refine aq.bU [] h (cE _ _ _) ⟨mR _,mR _,trivial⟩ ?_
  simp only [bO,bX,bW,if_true]
  refine aK.go 1000 ?_
  simp only [go_sem]
 ·have hd:decide (a.neg≠b.neg)=false:=by simpa using c
  rw [hd,db]
  simp only [go_sem,ky,c]
theorem Yld (σ:ai) (b:Nat) (l m:Li) (hb:bG σ b=some (.var l.cs)) (hl:xq l) (hm:xq m) :
  aq Tryz.prog (.fn 64 [] [.ptr b 0]) [m.aO] σ (fun r σ'=>r = .bool (eS l m)∧σ' = σ):=by
 have h:aJ Tryz.prog 64 [m.aO, .pp l.cs] (.bool (eS l m)):=by
  refine aJ.begin (rs:=[.tmp 3]) (m:=5) 1000 Tryz.func64 rfl rfl rfl (by decide) trivial ?_
  have h1:=TD l m hl hm
  simp only [go_sem,ky,Li.cs]
  refine aq.bU [] h1 (cE _ _ _) ⟨mR _,mR _,trivial⟩ ?_
  simp only [bO,bX,bW,if_true]
  refine aK.go 1000 ?_
  simp only [go_sem,eS]
 refine aq.sH (b:=b) (cs:=l.cs) [] hb h ?_ ⟨mR m,mR l,trivial⟩ rfl ⟨rfl,rfl⟩
 have h1:sV b l.cs m.aO=m.aO:=rfl
 have h2:sV b l.cs (.ptr b 0) = .pp l.cs:=by simp [sV,xK,Li.cs]
 simp only [bh,bj,aF,aS,h1,h2]
 exact cE _ _ _
theorem Yk0 (σ:ai) (b:Nat) (l m:Li) (hb:bG σ b=some (.var l.cs)) (hl:xq l) (hm:xq m) :
  aq Tryz.prog (.fn 104 [] [.ptr b 0]) [m.aO] σ (fun r σ'=>r = .bool (vE l m)∧σ' = σ):=by
 have h:aJ Tryz.prog 104 [m.aO, .pp l.cs] (.bool (vE l m)):=by
  refine aJ.begin (rs:=[.tmp 3]) (m:=5) 1000 Tryz.func104 rfl rfl rfl (by decide) trivial ?_
  have h1:=Zst l m hl hm
  simp only [go_sem,ky,Li.cs]
  refine aq.bU [] h1 (cE _ _ _) ⟨mR _,mR _,trivial⟩ ?_
  simp only [bO,bX,bW,if_true]
  refine aK.go 1000 ?_
  simp only [go_sem]
 refine aq.sH (b:=b) (cs:=l.cs) [] hb h ?_ ⟨mR m,mR l,trivial⟩ rfl ⟨rfl,rfl⟩
 have h1:sV b l.cs m.aO=m.aO:=rfl
 have h2:sV b l.cs (.ptr b 0) = .pp l.cs:=by simp [sV,xK,Li.cs]
 simp only [bh,bj,aF,aS,h1,h2]
 exact cE _ _ _
set_option maxHeartbeats 1000000 in
theorem Tc (c:List Li) (hc:kN c):aJ Tryz.prog 29 [.ps 5 (lits c)] (.ps 5 (lits (iE c))):=by
 refine aJ.begin (rs:=[.tmp 2]) (m:=32) 1000 Tryz.func29 rfl rfl rfl (by decide) (cr _) ?_
 have gK:=hc.2
 simp only [go_sem,fP]
 refine aK.h_ (ι:={q:Nat×List Li // q.1≤c.length∧iT q.2 (c.drop q.1)=iE c∧q.2.length≤q.1∧∀ x∈q.2,vD x}) 1000
  (fun q=>fG 33 [(3,i_ 0 5 (lits q.1.2)),(7, .ps 5 (lits c)),(8, .int .i64 c.length),(9, .int .i64 q.1.1)])
  (fun q=>[eV (lits q.1.2)]) (fun q=>c.length - q.1.1) ⟨(0,[]),av _,rfl,ah _,fun x hx=>by cases hx⟩ [] ?_ (fun _=>by simp) ?_
 ·refine iP rfl ?_
  simp only [go_sem,cr,cD (cr _),show lits []=[] from rfl,uD,tz]
 ·rintro ⟨⟨i,L⟩,hi,aP,Af,jt⟩
  simp only at hi aP Af jt
  by_cases bD:(i:Int)<c.length
  case neg =>
   have dP:i=c.length:=by omega
   subst dP
   rw [aV,iT] at aP
   simp only [go_sem,bD]
   refine aK.go 1000 ?_
   simp only [go_sem]
   rw [← aP,rQ rfl rfl];trivial
  have aZ:i<c.length:=by omega
  have hw:IntKind.i64.wrap ((i:Int)+1)=((i+1:Nat):Int):=by rw [ek (by omega)];omega
  have g1:=tu aZ
  have Bo:=hc.1 _ (aE aZ)
  rw [ao aZ,iT] at aP
  generalize c[i]=l at *
  have sw:([.bool l.neg, .int .i64 l.l.head, .ps 2 (l.l.args.map Tm.aO), .int .i64 l.r.head, .ps 2 (l.r.args.map Tm.aO)]:List ae)=l.cs:=rfl
  have hK:=Zm4 [eV (lits L),some (.var l.cs)] (b:=0) (.fn 64 [] [.ptr 1 0]) (fun m=>eS l m) L rfl (by omega) ⟨zM _ (cr L),mR l,trivial⟩ (by simp [go_sem]) (fun j hj=>Yld _ 1 l L[j] rfl (wZ Bo) (wZ (jt _ (aE hj))))
  simp only [go_sem,bD,fP,g1,ky]
  refine ⟨by omega,?_⟩
  rw [sw]
  refine hK.mono ?_
  rintro r σ' ⟨rfl,rfl⟩
  rw [← sw]
  obtain ⟨z,hz⟩:∃ z,(L.any fun m=>eS l m)=z:=⟨_,rfl⟩
  rw [hz] at aP ⊢
  have hT:=Qg l (wZ Bo)
  have ub:(z||l.neg&&nk l)=true→iT L (c.drop (i+1))=iE c:=fun h=>by rw [if_pos h] at aP;exact aP
  have sv:(z||l.neg&&nk l)=false→iT (L++[l]) (c.drop (i+1))=iE c:=fun h=>by rw [if_neg (by rw [h];simp)] at aP;exact aP
  clear aP
  have h2:bG [eV (lits L),some (bE.var [.bool l.neg, .int .i64 l.l.head, .ps 2 (l.l.args.map Tm.aO), .int .i64 l.r.head, .ps 2 (l.r.args.map Tm.aO)]),some (bE.row [.agg [.bool l.neg, .int .i64 l.l.head, .ps 2 (l.l.args.map Tm.aO), .int .i64 l.r.head, .ps 2 (l.r.args.map Tm.aO)]] 0)] 0=eV (lits L):=rfl
  have BH:lits [l]=[.agg [.bool l.neg, .int .i64 l.l.head, .ps 2 (l.l.args.map Tm.aO), .int .i64 l.r.head, .ps 2 (l.r.args.map Tm.aO)]]:=rfl
  have nD:=of_eq_true (LF [l])
  rw [BH] at nD
  have lw:bx 0 (lits (L++[l])):=cr _
  have sB:lits (L++[l])=lits L++[.agg [.bool l.neg, .int .i64 l.l.head, .ps 2 (l.l.args.map Tm.aO), .int .i64 l.r.head, .ps 2 (l.r.args.map Tm.aO)]]:=by rw [← BH];simp [lits]
  refine aK.go 1000 ?_
  cases z
  case' true =>
   replace ub:=ub rfl
   simp only [go_sem]
  case' false =>
   cases hn:l.neg
   case' false =>
    replace sv:=sv (by rw [hn];rfl)
    rw [hn] at nD sB h2
    simp only [go_sem,hn,uO h2,nD,fP,hw]
   case' true =>
    have e1:l.aO = .agg [.bool true, .int .i64 l.l.head, .ps 2 (l.l.args.map Tm.aO), .int .i64 l.r.head, .ps 2 (l.r.args.map Tm.aO)]:=by rw [← hn];rfl
    rw [hn] at h2 nD sB
    simp only [go_sem,hn]
    refine aq.bU [] hT (by rw [e1];exact cE _ _ _) ⟨mR _,trivial⟩ ?_
    simp only [bO,bX,bW,if_true]
    refine aK.go 1000 ?_
    cases ht:nk l
    case' true =>
     replace ub:=ub (by rw [hn,ht];rfl)
     simp only [go_sem]
    case' false =>
     replace sv:=sv (by rw [hn,ht];rfl)
     simp only [go_sem,uO h2,nD,fP,hw]
  all_goals first
  | (refine ⟨⟨(i+1,L),by simp only;omega,ub,by simp only;omega,jt⟩,[],iP rfl ?_,by simp only;omega⟩
     simp only [go_sem,cr,cD (cr _),Hz (cr L),hw]
     done)
  | (refine ⟨by omega,⟨(i+1,L++[l]),by simp only;omega,sv,by simp only [ay,ax,aR];omega,fun x hx=>(aW.1 hx).elim (jt x) fun h=>by rw [aN.1 h];exact Bo⟩,[(0,3),(3,0)],iP rfl ?_,by simp only;omega⟩
     dsimp only
     rw [sB] at lw ⊢
     rw [Fg,E6]
     simp only [go_sem,cr,cD (cr _),cD lw,il (av _) lw,fP]
     done)
  | trace_state
set_option maxHeartbeats 1000000 in
theorem Ym6 (c:List Li) (hc:kN c):aJ Tryz.prog 67 [.ps 5 (lits c)] (.bool (kS c)):=by
 refine aJ.begin (rs:=[.tmp 2]) (m:=28) 1000 Tryz.func67 rfl rfl rfl (by decide) trivial ?_
 have gK:=hc.2
 obtain ⟨W,hW⟩:∃ W,kS c=W:=⟨_,rfl⟩
 rw [hW]
 simp only [go_sem,fP]
 refine aK.c_ (ι:={i:Nat // i≤c.length∧se (c.take i) (c.drop i)=W}) 1000
  (fun q=>fG 29 [(0, .ps 5 (lits c)),(2, .bool false),(6, .ps 5 (lits c)),(7, .int .i64 c.length),(8, .int .i64 q.1)])
  (fun _=>[]) (fun q=>c.length - q.1) ⟨0,av _,hW⟩ ?_ (fun _=>av _) ?_
 ·simp only [go_sem,cr]
 ·rintro ⟨i,hi,aP⟩
  by_cases bD:(i:Int)<c.length
  case neg =>
   have dP:i=c.length:=by omega
   subst dP
   rw [aV,se] at aP
   subst aP
   simp only [go_sem,bD]
   refine aK.go 1000 ?_
   simp only [go_sem]
  have aZ:i<c.length:=by omega
  have hw:IntKind.i64.wrap ((i:Int)+1)=((i+1:Nat):Int):=by rw [ek (by omega)];omega
  have g1:=tu aZ
  have Bo:=hc.1 _ (aE aZ)
  have rZ:c.take (i+1)=c.take i++[c[i]]:=by rw [eH,aA aZ,Option.toList_some]
  rw [ao aZ,se,← rZ] at aP
  generalize c[i]=l at *
  have sw:([.bool l.neg, .int .i64 l.l.head, .ps 2 (l.l.args.map Tm.aO), .int .i64 l.r.head, .ps 2 (l.r.args.map Tm.aO)]:List ae)=l.cs:=rfl
  have Vr:(lits c).take i=lits (c.take i):=by simp [lits,List.map_take]
  have hK:=Ha [some (.var l.cs)] (.fn 104 [] [.ptr 0 0]) (fun m=>vE l m) (c.take i) (by rw [cV];omega) ⟨mR l,trivial⟩ (by simp [go_sem]) (fun j hj=>Yk0 _ 0 l (c.take i)[j] rfl (wZ Bo) (wZ (hc.1 _ (lO (aE hj)))))
  have hT:=Qg l (wZ Bo)
  obtain ⟨z,hz⟩:∃ z,((c.take i).any fun m=>vE l m)=z:=⟨_,rfl⟩
  rw [hz] at aP hK
  simp only [go_sem,bD,fP,g1,ky,Vr,di]
  (repeat ((with_reducible refine And.intro ?_ ?_); ·omega))
  rw [sw]
  refine hK.mono ?_
  rintro r σ' ⟨rfl,rfl⟩
  rw [← sw]
  have yu:(z || !l.neg&&nk l)=true→true=W:=fun h=>by rw [if_pos h] at aP;exact aP
  have wR:(z || !l.neg&&nk l)=false→se (c.take (i+1)) (c.drop (i+1))=W:=fun h=>by rw [if_neg (by rw [h];simp)] at aP;exact aP
  clear aP
  refine aK.go 1000 ?_
  cases z
  case' true =>
   replace yu:=yu rfl
   simp only [go_sem]
  case' false =>
   cases hn:l.neg
   case' true =>
    replace wR:=wR (by rw [hn];rfl)
    simp only [go_sem,hn]
   case' false =>
    have e1:l.aO = .agg [.bool false, .int .i64 l.l.head, .ps 2 (l.l.args.map Tm.aO), .int .i64 l.r.head, .ps 2 (l.r.args.map Tm.aO)]:=by rw [← hn];rfl
    simp only [go_sem,hn]
    refine aq.bU [] hT (by rw [e1];exact cE _ _ _) ⟨mR _,trivial⟩ ?_
    simp only [bO,bX,bW,if_true]
    refine aK.go 1000 ?_
    cases ht:nk l
    case' true =>
     replace yu:=yu (by rw [hn,ht];rfl)
     simp only [go_sem]
    case' false =>
     replace wR:=wR (by rw [hn,ht];rfl)
     simp only [go_sem]
  all_goals first
  | (refine ⟨⟨i+1,by omega,wR⟩,?_,by simp only;omega⟩
     simp only [go_sem,cr,hw]
     done)
  | (subst yu
     refine aK.go 1000 ?_
     simp only [go_sem]
     done)
  | trace_state
def kM (S:List Int) (v:Int):List Int:=if v∈S then S else S++[v]
mutual
def Tm.num:Tm→List Int→Tm×List Int
 | .mk h ts,S=>if h<0 then (.mk (-1 - ((kM S (-1 - h)).idxOf (-1 - h):Int)) [],kM S (-1 - h)) else (.mk h (Tm.fU ts S).1,(Tm.fU ts S).2)
def Tm.fU:List Tm→List Int→List Tm×List Int
 | [],S=>([],S)
 | t :: ts,S=>((t.num S).1 :: (Tm.fU ts (t.num S).2).1,(Tm.fU ts (t.num S).2).2)
end
def nh (S:List Int):List ae:=S.map (.int .i64 ·)
def qR (S:List Int):List ae:=(List.range S.length).map fun (i:Nat)=>.int .i64 i
def kq (S:List Int):Option bE:=some (.map (nh S) (qR S) false)
def kp:Option bE:=some (.var [.map 0])
theorem N9 (S:List Int) (v:Int):(kM S v).length≤S.length+1:=by unfold kM;split<;>simp
mutual
theorem Ly:∀ (t:Tm) (S:List Int),(t.num S).2.length≤S.length+t.size
 | .mk h ts,S=>by
  rw [Tm.num,Tm.size]
  split
  ·have:=N9 S (-1 - h);simp only;omega
  ·have:=Td ts S;simp only;omega
theorem Td:∀ (ts:List Tm) (S:List Int),(Tm.fU ts S).2.length≤S.length+Tm.bF ts
 | [],S=>by simp [Tm.fU]
 | t :: ts,S=>by
  rw [Tm.fU,Tm.bF]
  have:=Ly t S
  have:=Td ts (t.num S).2
  simp only;omega
end
theorem Ss (S:List Int) (v:Int):(nh S).all (sameKind (.int .i64 v))=true:=by simp [nh,sameKind]
theorem Ylq (S:List Int):(nh S).length=S.length:=by simp [nh]
theorem Kx (v:Int):∀ (S:List Int) (n:Nat),eY (.int .i64 v) (nh S) n=if v∈S then some (n+S.idxOf v) else none
 | [],n=>by simp [nh,eY]
 | b :: S,n=>by
  have ih:=Kx v S (n+1)
  simp only [nh,aF,eY] at ih ⊢
  by_cases c:b=v
  ·have hc:e8 (.int .i64 v) (.int .i64 b)=true:=by simp [e8,c]
   rw [hc,if_pos rfl,c,List.idxOf_cons_self,if_pos (by simp)];simp
  ·have hc:e8 (.int .i64 v) (.int .i64 b)=false:=by simp only [e8,beq_eq_false_iff_ne];exact fun e=>c e.symm
   rw [hc,if_neg (by simp),ih,List.idxOf_cons,show (b==v)=false by simpa using c,cond_false]
   by_cases hm:v∈S
   ·rw [if_pos hm,if_pos (by simp [hm])];congr 1;omega
   ·rw [if_neg hm,if_neg (by simp only [aQ,not_or];exact ⟨fun e=>c e.symm,hm⟩)]
theorem Zzp (S:List Int) (v:Int) (z:ae):eM (nh S) (qR S) z (.int .i64 v) true=if v∈S then .dz [.int .i64 (S.idxOf v), .bool true] else .dz [z, .bool false]:=by
 unfold eM
 rw [Kx]
 by_cases hm:v∈S
 ·have bD:=iN hm
  rw [if_pos hm,if_pos hm]
  simp only [if_true,qR,List.getD,cb,bm]
  rw [List.getElem?_range bD];rfl
 ·rw [if_neg hm,if_neg hm];rfl
theorem Zzm {S:List Int} {v:Int} (h:v ∉ S):iK (nh S) (qR S) (.int .i64 v) (.int .i64 S.length)=(nh (S++[v]),qR (S++[v])):=by
 unfold iK
 rw [Kx,if_neg h]
 simp [nh,qR,List.range_succ]
theorem Ch {n:Nat} (S:List Int):bx n (nh S)∧bx n (qR S):=⟨uB fun _ _=>trivial,uB fun _ _=>trivial⟩
theorem Ykq {n:Nat} (S:List Int):jg n (kq S):=Ch S
theorem Ykm (S:List Int) (v:Int) (hS:S.length<1000000000):aq Tryz.prog (.fn 113 [] [.ptr 1 0]) [.int .i64 v] [kq S,kp] (fun r σ'=>r = .int .i64 ((kM S v).idxOf v)∧σ'=[kq (kM S v),kp]):=by
 refine aq.begin (rs:=[.tmp 3]) (m:=18) 1000 Tryz.func113 rfl rfl rfl rfl rfl ?_
 have oP:=Zzp S v (.int .i64 0)
 unfold kq kp kM
 by_cases hm:v∈S
 ·rw [if_pos hm] at oP
  rw [if_pos hm]
  simp only [go_sem,Ss,oP]
  rw [fL]
  exact ⟨_,fx _,by simp,⟨Ch S,⟨ef,trivial⟩,trivial⟩,by simp [go_sem],rfl,rfl⟩
 ·rw [if_neg hm] at oP
  rw [if_neg hm]
  have Gh:(S++[v]).idxOf v=S.length:=by rw [List.idxOf_append,if_neg hm];simp
  simp only [go_sem,Ss,oP,Ylq,Zzm hm]
  rw [fL]
  exact ⟨_,fx _,by simp,⟨Ch _,⟨ef,trivial⟩,trivial⟩,by simp [go_sem],by rw [Gh],rfl⟩
theorem aq.Cr {P:Program} {σ:ai} {g:FuncId} {fn:Func} {c:Code} {first captured args all:List ae} {K:ae→ai→Prop} {m:Nat} {rs:List ResultVar} (hf:P.funcs[g]? = some fn) (hb:fn.body=some c) (hr:fn.results.toList=rs)
  (eK : first ++ args ++ captured = all) (hm : fn.ntmps - all.length = m) (eA : (fn.name == "runtime.NumGoroutine") = false)
  (h:aK P ⟨σ.length,none⟩ (qf P rs (yS K σ.length)) [.code c] .normal ⟨all++List.replicate m .undef,σ⟩):aq P (.fn g first captured) args σ K:=by
 subst hr hm
 exact aq.sh (by rw [eK];exact bS.tree (bS.body hf hb eA h))
theorem PQ {K:ae→ai→Prop} {n:Nat} {r0:ae} {σ':ai}:yS K n r0 σ' = ∃ r lC,pT (fun b=>decide (n≤b)) σ' r r0∧ic lC σ'∧lC.length=n∧bt n lC∧r.low 0∧K r lC:=rfl
def Dq:ae:=.fn 113 [] [.ptr 1 0]
def lp (S:List Int):ai:=[kq S,kp]
theorem Kk (S:List Int):bt 2 (lp S):=⟨Ykq S,⟨ef,trivial⟩,trivial⟩
@[go_sem] theorem Yyw {n:Nat} (S:List Int):bx n (nh S)=True:=eq_true (Ch S).1
@[go_sem] theorem Yyk {n:Nat} (S:List Int):bx n (qR S)=True:=eq_true (Ch S).2
@[go_sem] theorem Yyi {π:Nat→Nat} (S:List Int):dU π (nh S)=nh S:=cD (Ch S).1
@[go_sem] theorem Yyq {π:Nat→Nat} (S:List Int):dU π (qR S)=qR S:=cD (Ch S).2
theorem KU {f:ae} {args:List ae} {S S':List Int} {x:ae} {τ:ai} {K:ae→ai→Prop} (h:aq Tryz.prog f args (lp S) (fun r σ'=>r=x∧σ'=lp S')) (hf:f.low 2) (ha:bx 2 args)
  (hk:K x (kq S' :: kp :: τ)):aq Tryz.prog f args (kq S :: kp :: τ) K:=by
 refine aq.tail (σ:=lp S) (τ:=τ) hf ha (Kk S) (h.mono ?_)
 rintro _ _ ⟨rfl,rfl⟩
 exact ⟨rfl,hk⟩
theorem EP (wr:List Nat):∀ (i:Nat) (τ:ai),dB wr i τ τ = τ
 | _,[]=>rfl
 | i,x :: τ=>by simp only [dB,EP wr (i+1) τ,ite_self]
theorem Yk7 {f:ae} {args:List ae} {S S':List Int} {x:ae} {τ:ai} {lo:Ctx} {Q:b9→St→Prop} {k:List KI} {ops:Array Oper} {dst:Option Tmp} {ol:List Oper} {fs:List Fp} {tm:List ae}
  (h:aq Tryz.prog f args (lp S) (fun r σ'=>r=x∧σ'=lp S')) (hf:f.low 2) (ha:bx 2 args) (hk:im Tryz.prog lo Q k ops ol fs (put tm dst x) (kq S' :: kp :: τ)) :
  rS Tryz.prog lo Q k ops [0] dst ol fs tm (kq S :: kp :: τ) (kq S :: kp :: τ) f args:=by
 refine ⟨x,kq S' :: kp :: τ,KU h hf ha ⟨rfl,rfl⟩,⟨.inl rfl,zC _ _ _⟩,?_⟩
 have:dB [0] 0 (kq S' :: kp :: τ) (kq S :: kp :: τ)=kq S' :: kp :: τ:=by
  show (if ([0]:List Nat).contains 0=true then kq S' else kq S) :: dB [0] 1 (kp :: τ) (kp :: τ) = _
  rw [EP];rfl
 rw [this];exact hk
theorem Uf:∀ (n:Nat) (t:Tm) (S:List Int),t.size≤n→t.size≤100000000→t.fit→S.length+t.size<1000000000 →
  aq Tryz.prog (.fn 114 [] []) [.agg [Dq],t.aO] (lp S) (fun r σ'=>r=(t.num S).1.aO∧σ'=lp (t.num S).2)
 | 0,t,S,h,_,_,_=>by have:=ov t;omega
 | n+1,t,S,h,hs,hf,hS=>by
  refine aq.Cr (rs:=[.cell 4 70]) (m:=37) Tryz.func114 rfl rfl rfl rfl (by decide) ?_
  have fF:=ov t
  have me:=p5 t.args
  obtain ⟨hd,ts⟩:=t
  have ha:=(FD hd ts).symm
  by_cases fN:hd<0
  ·have fp:IntKind.i64.wrap (-1 - hd) = -1 - hd:=by have:=hf.1;exact ek (by unfold n5 at *;omega)
   have C7:(Tm.mk hd ts).num S=(.mk (-1 - ((kM S (-1 - hd)).idxOf (-1 - hd):Int)) [],kM S (-1 - hd)):=by rw [Tm.num,if_pos fN]
   rw [C7]
   refine aK.go 1000 ?_
   simp only [go_sem,lp,Dq,ha,fN,fp]
   have hb:(kM S (-1 - hd)).length<2000000000:=by have:=N9 S (-1 - hd);omega
   have Gh:(kM S (-1 - hd)).idxOf (-1 - hd)≤(kM S (-1 - hd)).length:=List.idxOf_le_length
   refine KU (Ykm S (-1 - hd) (by omega)) ⟨trivial,ja,trivial⟩ ⟨trivial,trivial⟩ ?_
   refine aK.go 1000 ?_
   have hw:IntKind.i64.wrap (-1 - (((kM S (-1 - hd)).idxOf (-1 - hd):Nat):Int)) = -1 - (((kM S (-1 - hd)).idxOf (-1 - hd):Nat):Int):=ek (by omega)
   simp only [go_sem,hw]
   rw [PQ]
   refine ⟨(Tm.mk (-1 - (((kM S (-1 - hd)).idxOf (-1 - hd):Nat):Int)) []).aO,lp (kM S (-1 - hd)),?_,?_,rfl,Kk _,dC _,rfl,rfl⟩
   ·rw [← FD];exact ⟨rfl,rfl,cE _ _ _⟩
   ·simp [lp,ic]
  ·have C7:(Tm.mk hd ts).num S=(.mk hd (Tm.fU ts S).1,(Tm.fU ts S).2):=by rw [Tm.num,if_neg fN]
   rw [C7]
   obtain ⟨Z,hZ⟩:∃ Z,Tm.fU ts S=Z:=⟨_,rfl⟩
   rw [hZ]
   refine aK.go 1000 ?_
   simp only [go_sem,lp,Dq,ha,fN,ak]
   refine aK.h_ (ι:={q:Nat×List Tm×List Int // q.1≤ts.length∧Z=(q.2.1++(Tm.fU (ts.drop q.1) q.2.2).1,(Tm.fU (ts.drop q.1) q.2.2).2)∧q.2.1.length=q.1∧q.2.2.length+Tm.bF (ts.drop q.1)≤S.length+Tm.bF ts}) 1000
    (fun q=>fG 39 [(2, .ptr 2 0),(4, .ptr 4 0),(5, .ptr 5 0),(23, .ps 2 (ts.map Tm.aO)),(24, .int .i64 ts.length),(25, .int .i64 q.1.1)])
    (fun q=>[kq q.1.2.2,kp,some (.var [.fn 113 [] [.ptr 1 0]]),none,some (.var [.int .i64 0, .aU]),some (.var [.int .i64 hd,i_ 6 2 (q.1.2.1.map Tm.aO)]),eV (q.1.2.1.map Tm.aO)])
    (fun q=>ts.length - q.1.1) ⟨(0,[],S),by omega,by simp [hZ],rfl,ah _⟩ [] ?_ (fun _=>by simp) ?_
   ·refine iP rfl ?_
    simp only [go_sem,aS,uD,tz,bQ,cD (bQ _),kq,kp]
   ·rintro ⟨⟨i,L,S'⟩,hi,aP,hL,yo⟩
    simp only at hi aP hL yo
    simp only [Tm.args] at fF me
    by_cases bD:(i:Int)<ts.length
    ·have aZ:i<ts.length:=by omega
     have hw:IntKind.i64.wrap ((i:Int)+1)=((i+1:Nat):Int):=by rw [ek (by omega)];omega
     have hg:(ts.map Tm.aO).getD i .undef=ts[i].aO:=nO aZ
     rw [ao aZ,Tm.fU] at aP
     rw [ao aZ,Tm.bF] at yo
     have qk:=H0 (xg hf) i aZ
     simp only [Tm.args] at qk
     have a1:=B2 ts i aZ
     have a2:=BZ ts (i+1)
     simp only [go_sem,bD,ak,hg,ft]
     refine ⟨by omega,?_⟩
     refine aK.draw [⟨none,[],[0,8]⟩,⟨none,[],[0,8]⟩, .no, .no,⟨none,[0],[]⟩,⟨some 8,[8],[]⟩,⟨some 9,[6,9],[]⟩, .no,⟨none,[5],[]⟩] 8 10 mixed rfl rfl (by decide) ?_
     simp only [go_sem,dx]
     obtain ⟨x,hx⟩:∃ x,ts[i]=x:=⟨_,rfl⟩
     simp only [hx] at qk a1 aP yo ⊢
     have Aw:=Ly x S'
     have sD:=Uf n x S' (by omega) (by omega) qk (by omega)
     rw [dc x] at sD
     generalize hz:x.num S'=z at *
     obtain ⟨y,S2⟩:=z
     simp only at sD aP Aw
     refine Yk7 sD ⟨trivial,trivial⟩ ⟨⟨⟨trivial,ja,trivial⟩,trivial⟩,⟨trivial,bQ _,trivial⟩,trivial⟩ ?_
     have h3:bG ([kq S2,kp,some (bE.var [.fn 113 [] [.ptr 1 0]]),none,some (.var [.int .i64 0, .aU]),some (.var [.int .i64 hd,i_ 6 2 (L.map Tm.aO)]),eV (L.map Tm.aO),some (.var [.int .i64 x.head, .ps 2 (x.args.map Tm.aO)]),some (.row [y.aO] 0),none]) 6=eV (L.map Tm.aO):=rfl
     have nD:=of_eq_true (B9 [y])
     rw [show [y].map Tm.aO=[y.aO] from rfl] at nD
     have sF:List.take 1 [y.aO]=[y.aO]:=rfl
     simp only [go_sem,uO h3,nD,ak,sF,ft]
     refine ⟨by omega,?_⟩
     refine aK.go 1000 ?_
     simp only [go_sem,hw]
     refine ⟨⟨(i+1,L++[y],S2),by simp only;omega,by simp only;rw [aP];simp,by simp [hL],by simp only;omega⟩,[(6,9),(9,6)],iP rfl ?_,by simp only;omega⟩
     have lw:bx 0 ((L++[y]).map Tm.aO):=bQ _
     dsimp only
     rw [cL] at lw ⊢
     rw [vQ (by simp),vS (by simp)]
     simp only [aF,aS] at lw
     simp only [go_sem,kq,kp,bQ,cD (bQ _),cD lw,il (av 7) lw,ak,ax,aR,aF,aS]
    ·have dP:i=ts.length:=by omega
     subst dP
     rw [aV,Tm.fU,bn] at aP
     subst aP
     simp only [go_sem,bD]
     refine aK.go 1000 ?_
     simp only [go_sem,xB]
     rw [PQ]
     refine ⟨(Tm.mk hd L).aO,lp S',?_,by simp [lp,kp,ic],rfl,Kk _,dC _,rfl,rfl⟩
     rw [← FD]
     refine ⟨rfl,?_,cE _ _ _⟩
     rw [rQ rfl rfl];trivial
def wi (l:List Tm):List Tm×Int:=if iC l then ([],1) else ((Tm.fU l []).1,0)
theorem Zg (l:List Tm) (hs:Tm.bF l<99999999) (hf:Tm.fits l):aJ Tryz.prog 73 [.ps 2 (l.map Tm.aO)] (.dz [.ps 2 ((wi l).1.map Tm.aO), .int .i64 (wi l).2]):=by
 refine aJ.begin (rs:=[.tmp 2, .tmp 3]) (m:=27) 1000 Tryz.func73 rfl rfl rfl (by decide) ⟨bQ _,trivial,trivial⟩ ?_
 have me:=p5 l
 have hw:=J8 l (by omega) (fun t ht=>by have:=sT ht;omega)
 unfold wi
 simp only [go_sem]
 refine aq.bU [] (hw) (by (try simp only [dc]);exact cE _ _ _) (by simp [go_sem,dC,bQ]) ?_;simp only [bO,bX,bW,if_true];refine aK.go 1000 ?_
 cases hW:iC l
 case' true=>simp only [go_sem,aS]
 case' false =>
  obtain ⟨Z,hZ⟩:∃ Z,Tm.fU l []=Z:=⟨_,rfl⟩
  rw [hZ]
  simp only [go_sem,ak]
  refine aK.h_ (ι:={q:Nat×List Tm×List Int // q.1≤l.length∧Z=(q.2.1++(Tm.fU (l.drop q.1) q.2.2).1,(Tm.fU (l.drop q.1) q.2.2).2)∧q.2.1.length=q.1∧q.2.2.length+Tm.bF (l.drop q.1)≤Tm.bF l}) 1000
   (fun q=>fG 28 [(5, .ptr 2 0),(6,i_ 3 2 (q.1.2.1.map Tm.aO)),(14, .ps 2 (l.map Tm.aO)),(15, .int .i64 l.length),(16, .int .i64 q.1.1)])
   (fun q=>[kq q.1.2.2,kp,some (.var [.fn 113 [] [.ptr 1 0]]),eV (q.1.2.1.map Tm.aO)])
   (fun q=>l.length - q.1.1) ⟨(0,[],[]),by omega,by simp [hZ],rfl,by simp⟩ [] ?_ (fun _=>by simp) ?_
  ·refine iP rfl ?_
   simp only [go_sem,aS,uD,tz,bQ,cD (bQ _),kq,kp,show nh []=[] from rfl,show qR []=[] from rfl]
  ·rintro ⟨⟨i,L,S⟩,hi,aP,hL,fF⟩
   simp only at hi aP hL fF
   by_cases bD:(i:Int)<l.length
   ·have aZ:i<l.length:=by omega
    have hw:IntKind.i64.wrap ((i:Int)+1)=((i+1:Nat):Int):=by rw [ek (by omega)];omega
    have hg:(l.map Tm.aO).getD i .undef=l[i].aO:=nO aZ
    rw [ao aZ,Tm.fU] at aP
    rw [ao aZ,Tm.bF] at fF
    have qk:=H0 hf i aZ
    obtain ⟨x,hx⟩:∃ x,l[i]=x:=⟨_,rfl⟩
    have a1:=AZ l i aZ
    simp only [hx] at qk aP fF hg a1
    have Aw:=Ly x S
    simp only [go_sem,bD,ak,hg,ft]
    refine ⟨by omega,?_⟩
    have sD:=Uf x.size x S (ah _) (by omega) qk (by omega)
    rw [dc x] at sD
    generalize hz:x.num S=z at *
    obtain ⟨y,S2⟩:=z
    simp only at sD aP Aw
    refine KU sD ⟨trivial,trivial⟩ ⟨⟨⟨trivial,ja,trivial⟩,trivial⟩,⟨trivial,bQ _,trivial⟩,trivial⟩ ?_
    have h3:bG [kq S2,kp,some (bE.var [.fn 113 [] [.ptr 1 0]]),eV (L.map Tm.aO),some (.var [.int .i64 x.head, .ps 2 (x.args.map Tm.aO)]),some (.row [y.aO] 0)] 3=eV (L.map Tm.aO):=rfl
    have nD:=of_eq_true (B9 [y])
    rw [show [y].map Tm.aO=[y.aO] from rfl] at nD
    have sF:List.take 1 [y.aO]=[y.aO]:=rfl
    refine aK.go 1000 ?_
    simp only [go_sem,uO h3,nD,ak,sF,ft,hw]
    refine ⟨by omega,?_⟩
    refine ⟨⟨(i+1,L++[y],S2),by simp only;omega,by simp only;rw [aP];simp,by simp [hL],by simp only;omega⟩,[(3,6),(6,3)],iP rfl ?_,by simp only;omega⟩
    have lw:bx 0 ((L++[y]).map Tm.aO):=bQ _
    dsimp only
    rw [cL] at lw ⊢
    rw [vQ (by simp),vS (by simp)]
    simp only [aF,aS] at lw
    simp only [go_sem,kq,kp,bQ,cD (bQ _),cD lw,il (av 4) lw,ak,ax,aR,aF,aS]
   ·have dP:i=l.length:=by omega
    subst dP
    rw [aV,Tm.fU,bn] at aP
    subst aP
    simp only [go_sem,bD]
    refine aK.go 1000 ?_
    simp only [go_sem,xB]
    rw [rQ rfl rfl];trivial
def xp:List Li→List Tm→List Li
 | l :: c,a :: b :: ts=>⟨l.neg,a,b⟩ :: xp c ts
 | _,_=>[]
def sK (c:List Li):List Li:=xp c (Tm.fU (cR c) []).1
def mD (c:List Li):List Li×Int:=if iC (cR c) then ([],1) else (sK c,0)
theorem Ykc (c:List Li) (ts:List Tm) (i:Nat) (hi:i<c.length) (h:ts.length=2*c.length) :
  xp (c.drop i) (ts.drop (2*i))=⟨c[i].neg,ts[2*i]'(by omega),ts[2*i+1]'(by omega)⟩ :: xp (c.drop (i+1)) (ts.drop (2*(i+1))):=by
 rw [ao hi,ao (by omega : 2*i<ts.length),ao (by omega : 2*i+1<ts.length),xp]
 rfl
theorem Qm:∀ (ts:List Tm) (S:List Int),(Tm.fU ts S).1.length=ts.length
 | [],_=>rfl
 | t :: ts,S=>by rw [Tm.fU];simp [Qm ts]
theorem Yud (c:List Li) (ts:List Tm) (h:ts.length=2*c.length) (hc:c.length<1000000):aJ Tryz.prog 75 [.ps 5 (lits c), .ps 2 (ts.map Tm.aO)] (.ps 5 (lits (xp c ts))):=by
 refine aJ.begin (rs:=[.tmp 4]) (m:=32) 1000 Tryz.func75 rfl rfl rfl (by decide) (cr _) ?_
 obtain ⟨Z,hZ⟩:∃ Z,xp c ts=Z:=⟨_,rfl⟩
 rw [hZ]
 simp only [go_sem,fP]
 refine aK.h_ (ι:={q:Nat×List Li // q.1≤c.length∧Z=q.2++xp (c.drop q.1) (ts.drop (2*q.1))∧q.2.length=q.1}) 1000
  (fun q=>fG 34 [(1, .ps 2 (ts.map Tm.aO)),(5,i_ 0 5 (lits q.1.2)),(8, .ps 5 (lits c)),(9, .int .i64 c.length),(10, .int .i64 q.1.1)])
  (fun q=>[eV (lits q.1.2)]) (fun q=>c.length - q.1.1) ⟨(0,[]),av _,by simp [hZ],rfl⟩ [] ?_ (fun _=>by simp) ?_
 ·refine iP rfl ?_
  simp only [go_sem,cr,cD (cr _),show lits []=[] from rfl,uD,tz,bQ,cD (bQ _)]
 ·rintro ⟨⟨i,L⟩,hi,aP,hL⟩
  simp only at hi aP hL
  by_cases bD:(i:Int)<c.length
  ·have aZ:i<c.length:=by omega
   have hw:IntKind.i64.wrap ((i:Int)+1)=((i+1:Nat):Int):=by rw [ek (by omega)];omega
   have rH:IntKind.i64.wrap (2*(i:Int))=((2*i:Nat):Int):=by rw [ek (by omega)];omega
   have Dd:IntKind.i64.wrap (((2*i:Nat):Int)+1)=((2*i+1:Nat):Int):=by rw [ek (by omega)];omega
   have g1:=tu aZ
   rw [Ykc c ts i aZ h] at aP
   have l1 : 2*i<ts.length:=by omega
   have l2 : 2*i+1<ts.length:=by omega
   have l1':((2*i:Nat):Int)<ts.length:=by omega
   have l2':((2*i+1:Nat):Int)<ts.length:=by omega
   have gt1:(ts.map Tm.aO).getD (2*i) .undef=(ts[2*i]).aO:=nO l1
   have gt2:(ts.map Tm.aO).getD (2*i+1) .undef=(ts[2*i+1]).aO:=nO l2
   generalize ts[2*i]=a at *
   generalize ts[2*i+1]=b at *
   generalize c[i]=l at *
   simp only [go_sem,bD,fP,g1,ky]
   refine ⟨by omega,?_⟩
   refine aK.draw [⟨none,[],[2]⟩, .no, .no, .no, .no, .no, .no, .no, .no, .no, .no, .no, .no, .no, .no,⟨some 2,[2],[]⟩,⟨some 3,[0,3],[]⟩] 2 4 mixed rfl rfl (by decide) ?_
   have h2:bG [eV (lits L),some (.var [.bool l.neg, .int .i64 l.l.head, .ps 2 (l.l.args.map Tm.aO), .int .i64 l.r.head, .ps 2 (l.r.args.map Tm.aO)]),some (.row [.agg [.bool l.neg, .int .i64 a.head, .ps 2 (a.args.map Tm.aO), .int .i64 b.head, .ps 2 (b.args.map Tm.aO)]] 0),none] 0=eV (lits L):=rfl
   have BH:lits [(⟨l.neg,a,b⟩:Li)]=[.agg [.bool l.neg, .int .i64 a.head, .ps 2 (a.args.map Tm.aO), .int .i64 b.head, .ps 2 (b.args.map Tm.aO)]]:=rfl
   have nD:=of_eq_true (LF [(⟨l.neg,a,b⟩:Li)])
   rw [BH] at nD
   have sB:lits (L++[(⟨l.neg,a,b⟩:Li)])=lits L++[.agg [.bool l.neg, .int .i64 a.head, .ps 2 (a.args.map Tm.aO), .int .i64 b.head, .ps 2 (b.args.map Tm.aO)]]:=by rw [← BH];simp [lits]
   have lw:bx 0 (lits (L++[(⟨l.neg,a,b⟩:Li)])):=cr _
   have sF:List.take 1 [ae.agg [.bool l.neg, .int .i64 a.head, .ps 2 (a.args.map Tm.aO), .int .i64 b.head, .ps 2 (b.args.map Tm.aO)]]=[.agg [.bool l.neg, .int .i64 a.head, .ps 2 (a.args.map Tm.aO), .int .i64 b.head, .ps 2 (b.args.map Tm.aO)]]:=rfl
   simp only [go_sem,dx,rH,Dd,ak,gt1,gt2,l1',l2',ft,uO h2,nD,fP,sF]
   refine ⟨by omega,by omega,by omega,?_⟩
   refine aK.go 1000 ?_
   simp only [go_sem,hw]
   refine ⟨⟨(i+1,L++[(⟨l.neg,a,b⟩:Li)]),by simp only;omega,by simp only;rw [aP];simp,by simp [hL]⟩,[(0,3),(3,0)],iP rfl ?_,by simp only;omega⟩
   dsimp only
   rw [sB] at lw ⊢
   rw [vQ (by simp),vS (by simp)]
   simp only [go_sem,cr,fP,cD (cr _),bQ,cD (bQ _),cD lw,il (av 1) lw,ak,ax,aR]
  ·have dP:i=c.length:=by omega
   subst dP
   rw [aV,xp.eq_2 _ _ (by simp),bn] at aP
   subst aP
   simp only [go_sem,bD]
   refine aK.go 1000 ?_
   simp only [go_sem,xB]
   rw [rQ rfl rfl];trivial
theorem Zo {c:List Li} (h:kN c):∀ t∈cR c,t.size<99999999∧t.fit:=fun t ht=>by
 unfold cR at ht
 rw [oG] at ht
 obtain ⟨l,hl,ht⟩:=ht
 obtain ⟨⟨a1,a2⟩,a3,a4⟩:=h.1 l hl
 simp only [aQ,en,or_false] at ht
 rcases ht with rfl | rfl
 ·exact ⟨a2,a1⟩
 ·exact ⟨a4,a3⟩
theorem TF:∀ {ts:List Tm},(∀ t∈ts,t.fit)→Tm.fits ts
 | [],_=>trivial
 | t :: ts,h=>⟨h t (by simp),TF fun x hx=>h x (by simp [hx])⟩
theorem Ig (c:List Li) (hc:kN c) (hs:Tm.bF (cR c)<99999999):aJ Tryz.prog 34 [.ps 5 (lits c)] (.dz [.ps 5 (lits (mD c).1), .int .i64 (mD c).2]):=by
 refine aJ.begin (rs:=[.tmp 2, .tmp 3]) (m:=17) 1000 Tryz.func34 rfl rfl rfl (by decide) ⟨cr _,trivial,trivial⟩ ?_
 have h1:=X9 c hc.2
 have h2:=Zg (cR c) hs (TF fun t ht=>(Zo hc t ht).2)
 have hn:(Tm.fU (cR c) []).1.length=2*c.length:=by rw [Qm,EW]
 have h3:=Yud c (Tm.fU (cR c) []).1 hn hc.2
 have hz:mD c=if iC (cR c) then ([],1) else (xp c (Tm.fU (cR c) []).1,0):=rfl
 have hy:wi (cR c)=if iC (cR c) then ([],1) else ((Tm.fU (cR c) []).1,0):=rfl
 simp only [go_sem]
 refine aq.bU [] (h1) (by (try simp only [dc]);exact cE _ _ _) (by simp [go_sem,dC,bQ,cr]) ?_;rw [jb];simp only [ite_self];refine aK.go 1000 ?_
 simp only [go_sem]
 refine aq.bU [] (h2) (by (try simp only [dc]);exact cE _ _ _) (by simp [go_sem,dC,bQ,cr]) ?_;rw [jb];simp only [ite_self];refine aK.go 1000 ?_
 rw [hy,hz]
 cases hW:iC (cR c)
 case' true=>simp only [go_sem,show lits []=[] from rfl]
 case' false =>
  simp only [go_sem]
  refine aq.bU [] (h3) (by (try simp only [dc]);exact cE _ _ _) (by simp [go_sem,dC,bQ,cr]) ?_;rw [jb];simp only [ite_self];refine aK.go 1000 ?_
  simp only [go_sem]
structure Wk where
 d:List Li
 u:List Int
 gone:Int
 pV:Int
 e:Int
def kx (g:List Sy) (es:List (List Li)) (W:Wk) (j:Nat):Option bE:=some (.var [.ps 4 (syms g), .ps 1 (cX es), .ps 5 (lits W.d),i_ j 1 (ints W.u), .int .i64 W.gone, .int .i64 W.pV, .int .i64 W.e])
def o7 (g:List Sy) (es:List (List Li)) (W:Wk) (j:Nat):ai:=kx g es W (j+1) :: (List.replicate j none++[eV (ints W.u)])
def kc (k:Int) (W:Wk):Wk:=if k∈W.u then W else { W with u:=W.u++[k] }
theorem Yo5 (g:List Sy) (es:List (List Li)) (W:Wk) {j n:Nat} (h:j<n):jg n (kx g es W j):=by
 unfold kx
 exact ⟨dK _,fe _,cr _,Be h _ _,trivial,trivial,trivial,trivial⟩
theorem Ykn (l:List Int) {n:Nat}:jg n (eV (ints l)):=zM _ (du l)
theorem Fk (g:List Sy) (es:List (List Li)) (W:Wk) (j:Nat):(o7 g es W j).length=j+2:=by simp [o7]
theorem Ln (g:List Sy) (es:List (List Li)) (W:Wk) (j:Nat) {n:Nat} (h:j+2≤n):bt n (o7 g es W j):=by
 unfold o7
 refine ⟨Yo5 g es W (by omega),?_⟩
 induction j with
 | zero=>exact ⟨Ykn _,trivial⟩
 | succ j ih =>
  rw [fw,bj,QU]
  exact ih (by omega)
def zv (g:List Sy) (es:List (List Li)) (R:ae→Nat→Wk→Prop) (r:ae) (σ':ai):Prop:=∃ m W',R r m W'∧σ'=o7 g es W' m
theorem xc {g:List Sy} {es:List (List Li)} {R:ae→Nat→Wk→Prop} {r:ae} {S:ai} (m:Nat) (W':Wk) (h:R r m W') (hr:r.low 0) (hS:ic (o7 g es W' m) S):mz (zv g es R) 2 r S:=by
 rw [fL]
 exact ⟨o7 g es W' m,hS,by rw [Fk];omega,Ln g es W' m (by rw [Fk];omega),mQ (av _) hr,m,W',h,rfl⟩
def NW (k:Int) (W:Wk) (r:ae) (m:Nat) (W':Wk):Prop:=r = .dz []∧W'=kc k W∧(m=0∨m=2)
theorem zX (g:List Sy) (es:List (List Li)) (W:Wk):o7 g es W 0=[some (.var [.ps 4 (syms g), .ps 1 (cX es), .ps 5 (lits W.d),i_ 1 1 (ints W.u), .int .i64 W.gone, .int .i64 W.pV, .int .i64 W.e]),eV (ints W.u)]:=rfl
theorem PF (g:List Sy) (es:List (List Li)) (W:Wk) (k:Int) (hu:W.u.length<1000000):aq Tryz.prog (.fn 69 [] []) [.ptr 0 0, .int .i64 k] (o7 g es W 0) (zv g es (NW k W)):=by
 refine aq.begin (rs:=[]) (m:=19) 1000 Tryz.func69 rfl rfl rfl rfl rfl ?_
 rw [zX]
 simp only [go_sem]
 refine aq.bU [1] (Hb W.u k (by omega)) ?_ ⟨du _,trivial,trivial⟩ ?_
 ·simp only [go_sem,rf,rh,rQ]
 simp only [bO,bX,bW,if_true]
 refine aK.go 1000 ?_
 by_cases c:k∈W.u
 ·simp only [go_sem,c]
  exact xc 0 W ⟨rfl,by unfold kc;rw [if_pos c], .inl rfl⟩ trivial (fx _)
 ·have h2:bG [some (.var [.ps 4 (syms g), .ps 1 (cX es), .ps 5 (lits W.d),i_ 1 1 (ints W.u), .int .i64 W.gone, .int .i64 W.pV, .int .i64 W.e]),eV (ints W.u),some (.row [.int .i64 k] 0)] 1=eV (ints W.u):=rfl
  have nD:eI ⟨1,false,8,[.int .i64 0], .int .i64⟩ [.int .i64 k]:=⟨fun x hx=>by rw [aN.1 hx];exact ⟨rfl,rfl⟩,by decide,by decide,rfl⟩
  have hle:W.u.length+1≤6000000000000:=by omega
  simp only [go_sem,c,uO h2,lH,nD,hle]
  refine xc 2 { W with u:=W.u++[k] } ⟨rfl,by unfold kc;rw [if_neg c], .inr rfl⟩ trivial ?_
  unfold o7 kx
  simp only
  rw [B_,vQ (by simp),vS (by simp),lH]
  simp [ic,List.replicate]
theorem Lt (g:List Sy) (es:List (List Li)) (W:Wk) (j:Nat) (π:Nat→Nat):(kx g es W j).map (dE π)=kx g es W (π j):=by
 unfold kx
 rw [bu]
 simp [dE,dU,dG,Yqu,cD (dK _),cD (fe _),cD (cr _)]
theorem La (l:List Int) (π:Nat→Nat):(eV (ints l)).map (dE π)=eV (ints l):=by
 cases l with
 | nil=>rfl
 | cons a t =>
  have lw:bx 0 (ints (a :: t)):=du _
  show Option.map (dE π) (some (.row (ints (a :: t)) 0)) = _
  rw [bu,w_,cD lw];rfl
def VE (g:List Sy) (es:List (List Li)) (σ:ai) (a j:Nat) (W':Wk):Nat→ai
 | 0=>(σ.set a (kx g es W' j)).set j (eV (ints W'.u))
 | m+1=>(σ.set a (kx g es W' (σ.length+m))).set j none++(List.replicate m none++[eV (ints W'.u)])
theorem G9 {g:List Sy} {es:List (List Li)} {W:Wk} {R:ae→Nat→Wk→Prop} {f f':ae} {args args':List ae} {σ:ai} {K:ae→ai→Prop} (a j:Nat) (U3:a≠j) (h0 : σ[a]? = some (kx g es W j)) (h1 : σ[j]? = some (eV (ints W.u)))
  (hf:f.low 2) (nS:dG (fun b=>if b=0 then a else j) f=f') (ha:bx 2 args) (ha':dU (fun b=>if b=0 then a else j) args=args')
  (h:aq Tryz.prog f args (o7 g es W 0) (zv g es R)) (hr:∀ r m W',R r m W'→r.low 0) (hk:∀ r m W',R r m W'→K r (VE g es σ a j W' m)):aq Tryz.prog f' args' σ K:=by
 have me:a < σ.length:=(aI.1 h0).1
 have Bw:j < σ.length:=(aI.1 h1).1
 have hZ:(o7 g es W 0).length=2:=Fk g es W 0
 refine aq.l9 (Z:=o7 g es W 0) (fun b=>if b=0 then a else j) (fun b b' h1 h2 e=>?_) (fun b hb=>?_) (fun b hb=>?_) (by rw [hZ];exact hf) nS (by rw [hZ];exact ha) ha' (by rw [hZ];exact Ln g es W 0 (ah _)) h ?_
 ·rw [hZ] at h1 h2
  split at e<;>split at e<;>first | omega | exact absurd e U3 | exact absurd e.symm U3
 ·split<;>assumption
 ·rw [hZ] at hb
  match b,hb with
  | 0,_=>exact ⟨kx g es W 1,rfl,by rw [Lt];exact h0⟩
  | 1,_=>exact ⟨eV (ints W.u),rfl,by rw [La];exact h1⟩
 rintro r Z' ⟨m,W',hR,rfl⟩
 have I7:=hr r m W' hR
 rw [hZ]
 refine ⟨by rw [Fk];omega,by rw [Fk];exact Ln g es W' m (ah _),mQ (av _) I7,?_⟩
 rw [zK I7]
 have he:jJ (fun b=>if b=0 then a else j) 2 (o7 g es W' m) σ=VE g es σ a j W' m:=by
  cases m with
  | zero =>
   show e9 _ _ 0 [kx g es W' 1,eV (ints W'.u)] σ++[] = _
   rw [bn,e9,e9,e9,Lt,La];rfl
  | succ m =>
   show e9 _ _ 0 [kx g es W' (m+2),none] σ++(List.replicate m none++[eV (ints W'.u)]).map _ = _
   rw [e9,e9,e9,Lt,cL,List.map_replicate,aF,aS,La]
   have:mY (fun b=>if b=0 then a else j) 2 σ.length (m+2) = σ.length+m:=by unfold mY;rw [if_neg (by omega)];omega
   rw [this];rfl
 rw [he]
 exact hk r m W' hR
def qY (z:Int×Wk) (r:ae) (m:Nat) (W':Wk):Prop:=r = .int .i64 z.1∧W'=z.2∧(m=0∨z.1=1∧(m=1∨m=4))
def gP (W:Wk):Int×Wk:=if kS W.d=true then (2,{ W with gone:=1 }) else (0,W)
def jA:Nat→List (List Li)→List Li→Option Nat
 | _,[],_=>none
 | k,c :: es,d=>if (jl c d).2=0∧(jl c d).1=true then some k else jA (k+1) es d
def ji (es:List (List Li)) (W:Wk):Int×Wk:=match jA 0 es W.d with
 | some k=>(2,{ W with gone:=2,pV:=(k:Int) })
 | none=>(0,W)
theorem Yu (g:List Sy) (es:List (List Li)) (W:Wk) (hd:kN W.d):aq Tryz.prog (.fn 30 [.ptr 0 0] []) [] (o7 g es W 0) (zv g es (qY (gP W))):=by
 refine aq.begin (rs:=[.tmp 2]) (m:=11) 1000 Tryz.func30 rfl rfl rfl rfl rfl ?_
 rw [zX]
 have hT:=Ym6 W.d hd
 simp only [go_sem]
 refine aq.bU [] hT (cE _ _ _) ⟨cr _,trivial⟩ ?_
 simp only [bO,bX,bW,if_true]
 refine aK.go 1000 ?_
 cases h:kS W.d
 ·simp only [go_sem]
  exact xc 0 W ⟨by unfold gP;rw [h];rfl,by unfold gP;rw [h];rfl, .inl rfl⟩ trivial (fx _)
 ·simp only [go_sem]
  exact xc 0 { W with gone:=1 } ⟨by unfold gP;rw [h];rfl,by unfold gP;rw [h];rfl, .inl rfl⟩ trivial (fx _)
theorem Ylt (g:List Sy) (es:List (List Li)) (W:Wk) (ow:∀ c∈es,kN c) (hl:es.length<1000000) (hd:kN W.d):aq Tryz.prog (.fn 33 [.ptr 0 0] []) [] (o7 g es W 0) (zv g es (qY (ji es W))):=by
 refine aq.l8 (rs:=[.tmp 2]) (m:=38) Tryz.func33 rfl rfl rfl rfl rfl ?_
 rw [show (o7 g es W 0).length=2 from rfl,zX]
 refine aK.go 1000 ?_
 simp only [go_sem,mH]
 refine aK.c_ (ι:={i:Nat // i≤es.length∧jA i (es.drop i) W.d=jA 0 es W.d}) 1000 (fun i=>fG 39 [(0, .ptr 0 0),(2, .int .i64 0),(10, .ps 1 (cX es)),(11, .int .i64 es.length),(12, .int .i64 i.1)])
  (fun _=>o7 g es W 0) (fun i=>es.length - i.1) ⟨0,av _,rfl⟩ ?_ (fun _=>ah _) ?_
 ·rw [zX]
  simp only [go_sem,fe,du,sn,dK,cr]
 ·rintro ⟨i,hi,aP⟩
  rw [zX]
  by_cases bD:(i:Int)<es.length
  ·have aZ:i<es.length:=by omega
   have hw:IntKind.i64.wrap ((i:Int)+1)=((i+1:Nat):Int):=by rw [ek (by omega)];omega
   rw [ao aZ,jA] at aP
   have g1:=y5 aZ
   have hc:=ow _ (aE aZ)
   generalize es[i]=c at *
   have hS:=Uz c W.d hc hd
   simp only [go_sem,bD,mH,g1]
   refine ⟨by omega,?_⟩
   refine aq.bU [] hS (cE _ _ _) ⟨cr _,cr _,trivial⟩ ?_
   rw [jb];simp only [ite_self]
   refine aK.go 1000 ?_
   generalize jl c W.d=z at *
   obtain ⟨z1,z2⟩:=z
   simp only at aP ⊢
   have hend:mz (zv g es (qY (ji es W))) 2 (.int .i64 2) [some (.var [.ps 4 (syms g), .ps 1 (cX es), .ps 5 (lits W.d),i_ 1 1 (ints W.u), .int .i64 2, .int .i64 i, .int .i64 W.e]),eV (ints W.u)]∨¬ (z2=0∧z1=true):=by
    by_cases hz:z2=0∧z1=true
    ·rw [if_pos hz] at aP
     exact .inl (xc 0 { W with gone:=2,pV:=(i:Int) } ⟨by unfold ji;rw [← aP],by unfold ji;rw [← aP], .inl rfl⟩ trivial (fx _))
    ·exact .inr hz
   have vd:¬ (z2=0∧z1=true)→jA (i+1) (es.drop (i+1)) W.d=jA 0 es W.d:=fun hz=>by rw [if_neg hz] at aP;exact aP
   clear aP
   by_cases h2:z2=0
   ·subst h2
    cases z1
    ·simp only [go_sem,hw]
     refine ⟨⟨i+1,by omega,vd (by simp)⟩,?_,by simp only;omega⟩
     exact ⟨rfl,fe _,⟨dK _,fe _,cr _⟩,du _⟩
    ·simp only [go_sem,hw]
     refine aK.go 1000 ?_
     simp only [go_sem]
     exact hend.resolve_right (by simp)
   ·simp only [go_sem,h2,hw]
    refine ⟨⟨i+1,by omega,vd (by simp [h2])⟩,?_,by simp only;omega⟩
    exact ⟨rfl,fe _,⟨dK _,fe _,cr _⟩,du _⟩
  ·have dP:i=es.length:=by omega
   subst dP
   rw [aV,jA] at aP
   simp only [go_sem,bD]
   refine aK.go 1000 ?_
   simp only [go_sem]
   refine xc 0 W ⟨by unfold ji;rw [← aP],by unfold ji;rw [← aP], .inl rfl⟩ trivial (fx _)
def mX:Nat→List (List Li)→List Li→Option (Nat×Nat)
 | _,[],_=>none
 | k,c :: es,d=>if (og c d).2.2=0∧(og c d).2.1=true then some (k,(og c d).1.toNat) else mX (k+1) es d
def lR (es:List (List Li)) (W:Wk):Int×Wk:=match mX 0 es W.d with
 | some x=>(1,kc (x.1:Int) { W with d:=W.d.eraseIdx x.2 })
 | none=>(0,W)
theorem Yr8 {c d:List Li} {k:Nat} (h:uT c d=some k):k<d.length:=by
 unfold uT at h
 simpa using bI h
theorem N7 {c d:List Li} (h:(og c d).2.2=0∧(og c d).2.1=true):∃ i:Nat,(og c d).1=(i:Int)∧i<d.length:=by
 unfold og at h ⊢
 split at h
 ·cases h.2
 ·rename_i h0
  rw [if_neg h0]
  cases hk:uT c d with
  | none=>rw [hk] at h;cases h.2
  | some k=>exact ⟨k,rfl,Yr8 hk⟩
theorem Yno (g:List Sy) (es:List (List Li)) (W:Wk) (ow:∀ c∈es,kN c) (hl:es.length<1000000) (hd:kN W.d) (hu:W.u.length<1000000):aq Tryz.prog (.fn 32 [.ptr 0 0] []) [] (o7 g es W 0) (zv g es (qY (lR es W))):=by
 refine aq.l8 (rs:=[.tmp 2]) (m:=48) Tryz.func32 rfl rfl rfl rfl rfl ?_
 rw [show (o7 g es W 0).length=2 from rfl,zX]
 refine aK.go 1000 ?_
 simp only [go_sem,mH]
 refine aK.c_ (ι:={i:Nat // i≤es.length∧mX i (es.drop i) W.d=mX 0 es W.d}) 1000 (fun i=>fG 49 [(0, .ptr 0 0),(2, .int .i64 0),(11, .ps 1 (cX es)),(12, .int .i64 es.length),(13, .int .i64 i.1)])
  (fun _=>o7 g es W 0) (fun i=>es.length - i.1) ⟨0,av _,rfl⟩ ?_ (fun _=>ah _) ?_
 ·rw [zX]
  simp only [go_sem,fe,du,sn,dK,cr]
 ·rintro ⟨i,hi,aP⟩
  rw [zX]
  by_cases bD:(i:Int)<es.length
  ·have aZ:i<es.length:=by omega
   have hw:IntKind.i64.wrap ((i:Int)+1)=((i+1:Nat):Int):=by rw [ek (by omega)];omega
   rw [ao aZ,mX] at aP
   have g1:=y5 aZ
   have hc:=ow _ (aE aZ)
   generalize es[i]=c at *
   have hS:=Ypn c W.d hc hd
   have gK:=fun h=>N7 (c:=c) (d:=W.d) h
   simp only [go_sem,bD,mH,g1]
   refine ⟨by omega,?_⟩
   refine aq.bU [] hS (cE _ _ _) ⟨cr _,cr _,trivial⟩ ?_
   rw [jb];simp only [ite_self]
   refine aK.go 1000 ?_
   generalize og c W.d=z at *
   obtain ⟨z1,z2,z3⟩:=z
   simp only at aP gK ⊢
   have vd:¬ (z3=0∧z2=true)→mX (i+1) (es.drop (i+1)) W.d=mX 0 es W.d:=fun hz=>by rw [if_neg hz] at aP;exact aP
   by_cases h2:z3=0
   ·subst h2
    cases z2
    ·simp only [go_sem,hw]
     refine ⟨⟨i+1,by omega,vd (by simp)⟩,?_,by simp only;omega⟩
     exact ⟨rfl,fe _,⟨dK _,fe _,cr _⟩,du _⟩
    ·obtain ⟨k,rfl,hk⟩:=gK ⟨rfl,rfl⟩
     rw [if_pos ⟨rfl,rfl⟩,b_] at aP
     have Ez:IntKind.i64.wrap ((k:Int)+1)=((k+1:Nat):Int):=by rw [ek (by have:=hd.2;omega)];omega
     have eg:W.d≠[]:=by intro e;rw [e] at hk;simp at hk
     have xV:=hd.2
     simp only [go_sem,hw,Ez]
     refine aq.sI [] (Hs W.d eg (by omega)) (cE _ _ _) ⟨cr _,trivial⟩ ?_
     rw [jb]
     simp only [zO,zQ,zU,w_,zW,up,cD (cr _)]
     refine aK.go 1000 ?_
     simp only [go_sem,bj,bh,Ez]
     refine aq.z6 (f:=.fn 71 [] []) (args:=[.os 0 0 W.d.length 5, .int .i64 k, .int .i64 ((k+1:Nat):Int)]) (B:=.row (lits W.d) 0) 3 rfl (cr _) ⟨trivial,trivial⟩ ⟨cm,trivial,trivial,trivial⟩ ((J2 W.d k hk (by omega)).mono ?_)
     rintro r σ' ⟨rfl,rfl⟩
     refine ⟨cm,_,rfl,cr _,?_⟩
     have Mx:W.d.take k++W.d.drop (k+1)=W.d.eraseIdx k:=(List.eraseIdx_eq_take_drop_succ W.d k).symm
     have iR:(W.d.eraseIdx k).length=W.d.length - 1:=mM hk
     rw [Mx]
     simp only [go_sem,cZ,de]
     refine aK.tell [3] 42 (.ps 5 (lits (W.d.eraseIdx k))) (by simp) ?_ ?_
     ·simp only [go_sem,bB,bf,fP,iR]
      rw [a_ (by rw [fP,iR];exact ah _)]
      exact cE _ _ _
     simp only [go_sem,cZ,de]
     have hU:=PF g es { W with d:=W.d.eraseIdx k } i hu
     refine aK.go 1000 ?_
     simp only [go_sem]
     refine G9 (g:=g) (es:=es) (W:={ W with d:=W.d.eraseIdx k }) (f:=.fn 69 [] []) (args:=[.ptr 0 0, .int .i64 i]) 0 1 (by decide) rfl rfl ⟨trivial,trivial⟩ rfl ⟨ef,trivial,trivial⟩ rfl hU (fun r m W' h=>by rw [h.1];trivial) ?_
     rintro r m W' ⟨rfl,Mb,hm⟩
     have hend:∀ S,ic (o7 g es W' (if m=0 then 0 else 4)) S→mz (zv g es (qY (lR es W))) 2 (.int .i64 1) S:=fun S hS =>
      xc _ W' ⟨by unfold lR;rw [← aP],by unfold lR;rw [← aP];exact Mb,by split;exact .inl rfl;exact .inr ⟨by unfold lR;rw [← aP], .inr rfl⟩⟩ trivial hS
     rcases hm with rfl | rfl
     ·show aK _ _ _ _ _ ⟨_,[kx g es W' 1,eV (ints W'.u),none,some (.row (lits (W.d.eraseIdx k)) (max 0 (lits (W.d.eraseIdx k)).length))]⟩
      refine aK.go 1000 ?_
      simp only [go_sem]
      refine aK.go 1000 ?_
      simp only [go_sem]
      exact hend _ (by simp [o7,ic])
     ·show aK _ _ _ _ _ ⟨_,[kx g es W' 5,none,none,some (.row (lits (W.d.eraseIdx k)) (max 0 (lits (W.d.eraseIdx k)).length)),none,eV (ints W'.u)]⟩
      refine aK.go 1000 ?_
      simp only [go_sem]
      refine aK.go 1000 ?_
      simp only [go_sem]
      exact hend _ (by simp [o7,ic,List.replicate])
   ·simp only [go_sem,h2,hw]
    refine ⟨⟨i+1,by omega,vd (by simp [h2])⟩,?_,by simp only;omega⟩
    exact ⟨rfl,fe _,⟨dK _,fe _,cr _⟩,du _⟩
  ·have dP:i=es.length:=by omega
   subst dP
   rw [aV,mX] at aP
   simp only [go_sem,bD]
   refine aK.go 1000 ?_
   simp only [go_sem]
   refine xc 0 W ⟨by unfold lR;rw [← aP],by unfold lR;rw [← aP], .inl rfl⟩ trivial (fx _)
def iu:List Int→Wk→Wk
 | [],W=>W
 | k :: l,W=>iu l (kc k W)
def jC (g:List Sy) (es:List (List Li)) (W:Wk):Int×Wk :=
 if (cz g es W.d).2.2≠0 then (2,{ W with e:=(cz g es W.d).2.2 }) else if (cz g es W.d).2.1=[] then (0,W) else (1,iu (cz g es W.d).2.1 { W with d:=iE (cz g es W.d).1 })
theorem KC (k:Int) (W:Wk):(kc k W).u.length≤W.u.length+1:=by unfold kc;split<;>simp
def zw (g:List Sy) (es:List (List Li)) (W:Wk):Bool→ai
 | true=>[kx g es W 1,eV (ints W.u),none]
 | false=>[kx g es W 2,none,eV (ints W.u)]
theorem ZG (g:List Sy) (es:List (List Li)) (W:Wk) (fp:sG es W.d) (hn:(cz g es W.d).2.2=0→kN (cz g es W.d).1) (hu:W.u.length+(cz g es W.d).2.1.length<1000000) :
  aq Tryz.prog (.fn 31 [.ptr 0 0] []) [] (o7 g es W 0) (zv g es (qY (jC g es W))):=by
 refine aq.l8 (rs:=[.tmp 2]) (m:=48) Tryz.func31 rfl rfl rfl rfl rfl ?_
 rw [show (o7 g es W 0).length=2 from rfl,zX]
 have hN:=Yky g es W.d fp
 obtain ⟨Z,hZ⟩:∃ Z,jC g es W=Z:=⟨_,rfl⟩
 have xP:=hZ
 unfold jC at xP
 rw [hZ]
 generalize cz g es W.d=z at *
 obtain ⟨z1,us,ze⟩:=z
 simp only at xP hN hn hu
 refine aK.go 1000 ?_
 simp only [go_sem]
 refine aK.draw [] 2 2 mixed rfl rfl (by decide) ?_
 simp only [go_sem,dx]
 refine ny hN (cE _ _ _) ⟨dK _,fe _,cr _,trivial⟩ ?_
 simp only [go_sem]
 refine aK.go 1000 ?_
 by_cases h0:ze=0
 case neg =>
  rw [if_pos h0] at xP
  simp only [go_sem,h0]
  refine xc 0 { W with e:=ze } ⟨by rw [← xP],by rw [← xP], .inl rfl⟩ trivial (fx _)
 subst h0
 rw [if_neg (by simp)] at xP
 by_cases h1:us=[]
 ·subst h1
  rw [if_pos rfl] at xP
  simp only [go_sem,lH,aR]
  refine xc 0 W ⟨by rw [← xP],by rw [← xP], .inl rfl⟩ trivial (fx _)
 rw [if_neg h1] at xP
 have eg:¬ (us.length:Int)=0:=by
  intro e;exact h1 (aY (by omega))
 have hT:=Tc z1 (hn rfl)
 simp only [go_sem,lH,eg]
 refine aq.bU [] hT (cE _ _ _) ⟨cr _,trivial⟩ ?_
 rw [jb];simp only [ite_self]
 refine aK.go 1000 ?_
 simp only [go_sem,lH]
 have wT:us.length<1000000:=by omega
 refine aK.h_ (ι:={q:Nat×Wk×Bool // q.1≤us.length∧(1,iu (us.drop q.1) q.2.1)=Z∧q.2.1.u.length≤W.u.length+q.1}) 1000 (fun q=>fG 49 [(0, .ptr 0 0),(2, .int .i64 0),(39, .ps 1 (ints us)),(40, .int .i64 us.length),(41, .int .i64 q.1.1)])
  (fun q=>zw g es q.1.2.1 q.1.2.2) (fun q=>us.length - q.1.1) ⟨(0,{ W with d:=iE z1 },true),av _,xP,ah _⟩ [] ?_ (fun q=>by show 2≤(zw g es q.1.2.1 q.1.2.2).length;cases q.1.2.2<;>simp [zw]) ?_
 ·refine iP rfl ?_
  unfold zw kx
  simp only [go_sem,fe,du,sn,dK,cr,cD (fe _),cD (du _),cD (dK _),cD (cr _)]
 ·rintro ⟨⟨i,X,b⟩,hi,aP,hX⟩
  simp only at hi aP hX
  by_cases bD:(i:Int)<us.length
  ·have aZ:i<us.length:=by omega
   have hw:IntKind.i64.wrap ((i:Int)+1)=((i+1:Nat):Int):=by rw [ek (by omega)];omega
   rw [ao aZ,iu] at aP
   have g1:=xd aZ
   generalize us[i]=k at *
   have hU:=PF g es X k (by omega)
   have hUl:=KC k X
   simp only [go_sem,bD,lH,g1]
   refine ⟨by omega,?_⟩
   have iq:(i+1≤us.length∧(1,iu (us.drop (i+1)) (kc k X))=Z∧(kc k X).u.length≤W.u.length+(i+1)):=⟨by omega,aP,by omega⟩
   cases b
   ·refine G9 (g:=g) (es:=es) (W:=X) (f:=.fn 69 [] []) (args:=[.ptr 0 0, .int .i64 k]) 0 2 (by decide) rfl rfl ⟨trivial,trivial⟩ rfl ⟨ef,trivial,trivial⟩ rfl hU (fun r m W' h=>by rw [h.1];trivial) ?_
    rintro r m W' ⟨rfl,rfl,hm⟩
    generalize kc k X=X' at *
    rcases hm with rfl | rfl
    ·show aK _ _ _ _ _ ⟨_,[kx g es X' 2,none,eV (ints X'.u)]⟩
     refine aK.go 1000 ?_
     simp only [go_sem,hw]
     refine ⟨⟨(i+1,X',false),iq⟩,[],iP rfl ?_,by simp only;omega⟩
     unfold zw kx
     simp only [go_sem,fe,du,sn,dK,cr,cD (fe _),cD (du _),cD (dK _),cD (cr _)]
    ·show aK _ _ _ _ _ ⟨_,[kx g es X' 4,none,none,none,eV (ints X'.u)]⟩
     refine aK.go 1000 ?_
     simp only [go_sem,hw]
     refine ⟨⟨(i+1,X',false),iq⟩,[(2,4),(4,2)],iP rfl ?_,by simp only;omega⟩
     unfold zw kx
     simp only [go_sem,fe,du,sn,dK,cr,cD (fe _),cD (du _),cD (dK _),cD (cr _)]
   ·refine G9 (g:=g) (es:=es) (W:=X) (f:=.fn 69 [] []) (args:=[.ptr 0 0, .int .i64 k]) 0 1 (by decide) rfl rfl ⟨trivial,trivial⟩ rfl ⟨ef,trivial,trivial⟩ rfl hU (fun r m W' h=>by rw [h.1];trivial) ?_
    rintro r m W' ⟨rfl,rfl,hm⟩
    generalize kc k X=X' at *
    rcases hm with rfl | rfl
    ·show aK _ _ _ _ _ ⟨_,[kx g es X' 1,eV (ints X'.u),none]⟩
     refine aK.go 1000 ?_
     simp only [go_sem,hw]
     refine ⟨⟨(i+1,X',true),iq⟩,[],iP rfl ?_,by simp only;omega⟩
     unfold zw kx
     simp only [go_sem,fe,du,sn,dK,cr,cD (fe _),cD (du _),cD (dK _),cD (cr _)]
    ·show aK _ _ _ _ _ ⟨_,[kx g es X' 4,none,none,none,eV (ints X'.u)]⟩
     refine aK.go 1000 ?_
     simp only [go_sem,hw]
     refine ⟨⟨(i+1,X',false),iq⟩,[(2,4),(4,2)],iP rfl ?_,by simp only;omega⟩
     unfold zw kx
     simp only [go_sem,fe,du,sn,dK,cr,cD (fe _),cD (du _),cD (dK _),cD (cr _)]
  ·have dP:i=us.length:=by omega
   subst dP
   rw [aV,iu] at aP
   simp only [go_sem,bD]
   refine aK.go 1000 ?_
   simp only [go_sem]
   cases b
   ·exact xc 1 X ⟨by rw [← aP],by rw [← aP], .inr ⟨by rw [← aP], .inl rfl⟩⟩ trivial (by simp [o7,zw,ic,List.replicate])
   ·exact xc 0 X ⟨by rw [← aP],by rw [← aP], .inl rfl⟩ trivial (by simp [o7,zw,ic,List.replicate])
end Go.Proofs
namespace Go.Proofs
open Go Go.c8
def dD:List (Wk→Int×Wk)→Wk→Int×Wk
 | [],W=>(0,W)
 | F :: l,W=>if (F W).1=0 then dD l W else F W
def cS (g:List Sy) (es:List (List Li)):List (Wk→Int×Wk):=[gP,jC g es,lR es,ji es]
def wG (g:List Sy) (es:List (List Li)):Nat→Wk→Wk
 | 0,W=>W
 | n+1,W=>if (dD (cS g es) W).1=1 then wG g es n (dD (cS g es) W).2 else (dD (cS g es) W).2
def AQ (c:List Li):Wk:=⟨iE c,[],0, -1,0⟩
structure Si where
 d:List Li
 u:List Int
 gone:Int
 pV:Int
def Si.aO (s:Si):ae:=.agg [.ps 5 (lits s.d), .ps 1 (ints s.u), .int .i64 s.gone, .int .i64 s.pV]
def qy (W:Wk):Si×Int:=if W.e≠0 then (⟨[],[],0,0⟩,W.e) else if (mD W.d).2≠0 then (⟨[],[],0,0⟩,(mD W.d).2) else (⟨(mD W.d).1,W.u,W.gone,W.pV⟩,0)
def gM (g:List Sy) (es:List (List Li)) (c:List Li):Si×Int:=if cM g (c :: es)≠0 then (⟨[],[],0,0⟩,cM g (c :: es)) else qy (wG g es 70 (AQ c))
def mC (a b:Prop) (z:Int×Wk) (W:Wk):Prop:=(z.1=0∧z.2=W)∨(a∧z.1=1)∨(b∧z.1=2)
theorem Yq (W:Wk):mC False True (gP W) W:=by
 unfold gP mC;split
 ·exact .inr (.inr ⟨trivial,rfl⟩)
 ·exact .inl ⟨rfl,rfl⟩
theorem Ymn (g:List Sy) (es:List (List Li)) (W:Wk):mC True True (jC g es W) W:=by
 unfold jC mC;split
 ·exact .inr (.inr ⟨trivial,rfl⟩)
 ·split
  ·exact .inl ⟨rfl,rfl⟩
  ·exact .inr (.inl ⟨trivial,rfl⟩)
theorem Yrg (es:List (List Li)) (W:Wk):mC True False (lR es W) W:=by
 unfold lR mC;split
 ·exact .inr (.inl ⟨trivial,rfl⟩)
 ·exact .inl ⟨rfl,rfl⟩
theorem Ymc (es:List (List Li)) (W:Wk):mC False True (ji es W) W:=by
 unfold ji mC;split
 ·exact .inr (.inr ⟨trivial,rfl⟩)
 ·exact .inl ⟨rfl,rfl⟩
def rk (o:Option bE) (g:List Sy) (es:List (List Li)) (W:Wk):ai:=[o,kx g es W 3,some (.row [.fn 30 [.ptr 1 0] [], .fn 31 [.ptr 1 0] [], .fn 32 [.ptr 1 0] [], .fn 33 [.ptr 1 0] []] 0),eV (ints W.u)]
theorem Ik {o:Option bE} {g:List Sy} {es:List (List Li)} {W:Wk} {z:Int×Wk} {f:FuncId} {K:ae→ai→Prop} (h:aq Tryz.prog (.fn f [.ptr 0 0] []) [] (o7 g es W 0) (zv g es (qY z)))
  (h0:K (.int .i64 z.1) (rk o g es z.2))
  (h1:z.1=1→K (.int .i64 z.1) [o,kx g es z.2 4,some (.row [.fn 30 [.ptr 1 0] [], .fn 31 [.ptr 1 0] [], .fn 32 [.ptr 1 0] [], .fn 33 [.ptr 1 0] []] 0),none,eV (ints z.2.u)])
  (h4:z.1=1→K (.int .i64 z.1) [o,kx g es z.2 7,some (.row [.fn 30 [.ptr 1 0] [], .fn 31 [.ptr 1 0] [], .fn 32 [.ptr 1 0] [], .fn 33 [.ptr 1 0] []] 0),none,none,none,none,eV (ints z.2.u)]) :
  aq Tryz.prog (.fn f [.ptr 1 0] []) [] (rk o g es W) K:=by
 refine G9 (g:=g) (es:=es) (W:=W) (f:=.fn f [.ptr 0 0] []) (args:=[]) 1 3 (by decide) rfl rfl ⟨⟨ef,trivial⟩,trivial⟩ rfl trivial rfl h (fun r m W' h=>by rw [h.1];trivial) ?_
 rintro r m W' ⟨rfl,rfl,rfl | ⟨h5,rfl | rfl⟩⟩
 ·exact h0
 ·exact h1 h5
 ·exact h4 h5
theorem Xc (es:List (List Li)) (hl:es.length<1000000) {o:Option bE} {K:ae→ai→Prop} (h1:es=[]→K .aU [o]) (h2:es=[]→K (.os 2 0 0 1) [o,none,some (.row [] 0)]) (h3:es≠[]→K (.os 2 0 es.length 1) [o,none,some (.row (cX es) 0)]) :
  aq Tryz.prog (.fn 27 [] []) [.ps 1 (cX es)] [o] K:=by
 have uW:(es=[]∨es≠[]):=by cases es<;>simp
 rcases uW with rfl | eg
 ·refine aq.l9 (Z:=[]) (f:=.fn 27 [] []) (args:=[.ps 1 []]) (fun b=>b) (fun b b' h=>by simp at h) (fun b h=>by simp at h) (fun b h=>by simp at h) ⟨trivial,trivial⟩ rfl ⟨trivial,trivial⟩ rfl trivial (bS.v Qf) ?_
  rintro r Z' (⟨rfl,rfl⟩ | ⟨rfl,rfl⟩)
  ·exact ⟨ah _,trivial,trivial,h1 rfl⟩
  ·exact ⟨av _,by simp [go_sem],ja,h2 rfl⟩
 ·refine aq.sI [] (Q5 es eg (by omega)) (cE _ _ _) ⟨fe _,trivial⟩ ?_
  rw [jb]
  simp only [zO,zQ,zU,w_,zW,up,cD (fe _)]
  exact h3 eg
theorem LD (es:List (List Li)) (c:List Li) (hl:es.length<1000000) {o:Option bE} {K:ae→ai→Prop} :
  (es=[]→K (.ps 1 (cX (c :: es))) [o,none]→aq Tryz.prog (.fn 26 [] []) [.aU, .int .i64 0, .os 1 0 1 1] [o,some (.row [.ps 5 (lits c)] 0)] K) ∧
  (es=[]→K (.ps 1 (cX (c :: es))) [o,none,none,none]→aq Tryz.prog (.fn 26 [] []) [.os 2 0 0 1, .int .i64 0, .os 3 0 1 1] [o,none,some (.row [] 0),some (.row [.ps 5 (lits c)] 0)] K) ∧
  (es≠[]→K (.ps 1 (cX (c :: es))) [o,none,none,none]→aq Tryz.prog (.fn 26 [] []) [.os 2 0 es.length 1, .int .i64 0, .os 3 0 1 1] [o,none,some (.row (cX es) 0),some (.row [.ps 5 (lits c)] 0)] K):=by
 have UW:∀ b,b<3→b=0∨b=1∨b=2:=fun b hb=>by omega
 have lc:=cr (n:=0) c
 have le:=fe (n:=0) es
 have lr:=fe (n:=0) (c :: es)
 refine ⟨fun h hk=>?_,fun h hk=>?_,fun h hk=>?_⟩
 ·subst h
  refine aq.l9 (Z:=[some (.row [.ps 5 (lits c)] 0)]) (f:=.fn 26 [] []) (args:=[.aU, .int .i64 0, .os 0 0 1 1]) (fun b=>b+1) (fun b b' h1 h2 e=>by omega) (fun b h=>by simp at h ⊢;omega) (fun b h=>?_) ⟨trivial,trivial⟩ rfl ⟨trivial,trivial,Nat.one_pos,trivial⟩ rfl ?_ (bS.v (P4 c)) ?_
  ·obtain rfl:b=0:=by simp at h;exact h
   exact ⟨_,rfl,by simp [go_sem,cD lc]⟩
  ·simp [go_sem,cr]
  rintro r Z' ⟨rfl,rfl⟩
  exact ⟨ah _,by simp [go_sem],fe _,by rw [zK (show ae.low 0 (.ps 1 (cX [c])) from lr)];exact hk⟩
 ·subst h
  refine aq.l9 (Z:=[none,some (.row [] 0),some (.row [.ps 5 (lits c)] 0)]) (f:=.fn 26 [] []) (args:=[.os 1 0 0 1, .int .i64 0, .os 2 0 1 1]) (fun b=>b+1) (fun b b' h1 h2 e=>by omega) (fun b h=>by simp at h ⊢;omega) (fun b h=>?_) ⟨trivial,trivial⟩ rfl ⟨(show (1:Nat)<3 by decide),trivial,(show (2:Nat)<3 by decide),trivial⟩ rfl ?_ (bS.v (Qd c)) ?_
  ·rcases UW b h with rfl | rfl | rfl<;>exact ⟨_,rfl,by simp [go_sem,cD lc]⟩
  ·simp [go_sem,cr]
  rintro r Z' ⟨rfl,rfl⟩
  exact ⟨ah _,by simp [go_sem],fe _,by rw [zK (show ae.low 0 (.ps 1 (cX [c])) from lr)];exact hk⟩
 ·refine aq.l9 (Z:=[none,some (.row (cX es) 0),some (.row [.ps 5 (lits c)] 0)]) (f:=.fn 26 [] []) (args:=[.os 1 0 es.length 1, .int .i64 0, .os 2 0 1 1]) (fun b=>b+1) (fun b b' h1 h2 e=>by omega) (fun b h=>by simp at h ⊢;omega) (fun b h=>?_) ⟨trivial,trivial⟩ rfl ⟨(show (1:Nat)<3 by decide),trivial,(show (2:Nat)<3 by decide),trivial⟩ rfl ?_ (bS.v (QD es c h hl)) ?_
  ·rcases UW b ‹_› with rfl | rfl | rfl<;>exact ⟨_,rfl,by simp [go_sem,cD lc,cD le]⟩
  ·simp [go_sem,cr,fe]
  rintro r Z' ⟨rfl,rfl⟩
  exact ⟨ah _,by simp [go_sem],fe _,by rw [zK (show ae.low 0 (.ps 1 (cX (c :: es))) from lr)];exact hk⟩
end Go.Proofs
namespace Go.Proofs
open Go Go.c8
attribute [local go_sem] Nat.reduceAdd Nat.reduceSub Nat.reduceMul Nat.reduceLeDiff Nat.reduceEqDiff Nat.reduceBEq Nat.reduceLT Nat.le_refl Int.natCast_zero Nat.sub_zero List.length_map Int.toNat_natCast Int.natCast_one Int.reduceEq Int.reduceLT Int.reduceLE Int.reduceNe Int.sub_zero Int.zero_add Int.toNat_one
theorem HK (b sz:Nat) (l:List ae):(i_ b sz l).cells=[i_ b sz l]:=by cases l<;>rfl
theorem UG:((2:Nat):Int)=2:=rfl
theorem UH:((3:Nat):Int)=3:=rfl
theorem IH:((4:Nat):Int)=4:=rfl
theorem UE:Int.toNat 2=2:=rfl
theorem UF:Int.toNat 3=3:=rfl
theorem HA {Fs:List (Wk→Int×Wk)} {W:Wk} {k:Nat} (hk:k<Fs.length) (h:(Fs[k] W).1=0):dD (Fs.drop k) W=dD (Fs.drop (k+1)) W:=by
 rw [ao hk,dD,if_pos h]
theorem HE {Fs:List (Wk→Int×Wk)} {W:Wk} {k:Nat} (hk:k<Fs.length) (h:¬ (Fs[k] W).1=0):dD (Fs.drop k) W=Fs[k] W:=by
 rw [ao hk,dD,if_neg h]
set_option maxHeartbeats 2000000 in
theorem Yxr (g:List Sy) (es:List (List Li)) (c:List Li) (I:Nat→Wk→Prop) (ow:∀ x∈c :: es,ou x) (hc:cM g (c :: es)=0→kN c) (hl:es.length<1000000) (Aj:cM g (c :: es)=0→∀ x∈es,kN x) (IQ:cM g (c :: es)=0→I 70 (AQ c))
  (hI:∀ n W,I n W→(∃ m,n=m+1)∧kN W.d∧sG es W.d∧((cz g es W.d).2.2=0→kN (cz g es W.d).1)∧W.u.length+(cz g es W.d).2.1.length<1000000)
  (nT:∀ n W,I (n+1) W→(dD (cS g es) W).1=1→I n (dD (cS g es) W).2)
  (fZ:∀ n W,I n W→(dD (cS g es) W).1≠1→(dD (cS g es) W).2.e=0→kN (dD (cS g es) W).2.d∧Tm.bF (cR (dD (cS g es) W).2.d)<99999999) :
  aJ Tryz.prog 9 [.ps 4 (syms g), .ps 1 (cX es), .ps 5 (lits c)] (.dz [(gM g es c).1.aO, .int .i64 (gM g es c).2]):=by
 refine aJ.begin (rs:=[.cell 6 28, .tmp 7]) (m:=96) 1000 Tryz.func9 rfl rfl rfl (by decide) ⟨⟨cr _,du _,trivial,trivial,trivial⟩,trivial,trivial⟩ ?_
 obtain ⟨Z,hZ⟩:∃ Z,gM g es c=Z:=⟨_,rfl⟩
 rw [hZ]
 unfold gM at hZ
 simp only [go_sem]
 refine Xc es hl (fun he=>?_) (fun he=>?_) (fun he=>?_)
 case' refine_1 =>
  refine aK.go 1000 ?_
  simp only [go_sem]
  refine (LD es c hl).1 he ?_
  refine aK.go 1000 ?_
  simp only [go_sem,mH]
 case' refine_2 =>
  refine aK.go 1000 ?_
  simp only [go_sem]
  refine (LD es c hl).2.1 he ?_
  refine aK.go 1000 ?_
  simp only [go_sem,mH]
 case' refine_3 =>
  refine aK.go 1000 ?_
  simp only [go_sem]
  refine (LD es c hl).2.2 he ?_
  refine aK.go 1000 ?_
  simp only [go_sem,mH]
 all_goals
  obtain ⟨L,hL⟩:∃ L,c :: es=L:=⟨_,rfl⟩
  have hlen:es.length+1=L.length:=by rw [← hL];rfl
  have jt:L.length<2000000:=by omega
  rw [hL,hlen]
  rw [hL] at ow hZ IQ Aj hc
  clear he
  refine aK.c_ (ι:={i:Nat // i≤L.length∧cM g (L.drop i)=cM g L}) 1000 (fun i=>fG 99 [(0, .ps 4 (syms g)),(1, .ps 1 (cX es)),(2, .ps 5 (lits c)),(6, .ptr 0 0),(7, .int .i64 0),(21, .ps 1 (cX L)),(22, .int .i64 L.length),(23, .int .i64 i.1)])
   (fun _=>[some (.var [.aU, .aU, .int .i64 0, .int .i64 0])]) (fun i=>L.length - i.1) ⟨0,by simp⟩ ?_ (fun _=>av _) ?_
  ·simp only [go_sem,dK,fe,cr]
  ·rintro ⟨i,hi,aP⟩
   by_cases bD:(i:Int)<L.length
   ·have aZ:i<L.length:=by omega
    have hd:cM g (L.drop i)=if bd g L[i]≠0 then bd g L[i] else cM g (L.drop (i+1)):=by
     rw [ao aZ];rfl
    simp only [go_sem,bD,mH,y5 aZ]
    (repeat ((with_reducible refine And.intro ?_ ?_); ·omega))
    refine aq.bU [] (E0 g L[i] (ow _ (aE aZ))) (cE _ _ _) (by simp [go_sem,dK,cr]) ?_;simp only [bO,bX,bW,if_true];refine aK.go 1000 ?_
    by_cases c0:bd g L[i]=0
    ·simp only [go_sem,c0]
     refine ⟨⟨i+1,aZ,by rw [← aP,hd,if_neg (by simp [c0])]⟩,?_,by simp only;omega⟩
     simp only [go_sem,dK,fe,cr]
     rw [ek (by omega)];rfl
    ·simp only [go_sem,c0]
     refine aK.go 1000 ?_
     rw [hd,if_pos c0] at aP
     rw [if_pos (by rw [← aP];exact c0)] at hZ
     subst hZ
     simp only [go_sem,aP,Si.aO]
     exact ⟨rfl,rfl⟩
   ·have dP:i=L.length:=by omega
    subst dP
    rw [aV,cM] at aP
    rw [if_neg (by rw [← aP];simp)] at hZ
    have F1:=Aj aP.symm
    have IQ:=IQ aP.symm
    have hT:=Tc c (hc aP.symm)
    simp only [go_sem,bD]
    refine aK.go 1000 ?_
    simp only [go_sem]
    refine aq.bU [] hT (cE _ _ _) ⟨cr _,trivial⟩ ?_
    rw [jb];simp only [ite_self]
    refine aK.go 1000 ?_
    simp only [go_sem]
    refine ⟨rfl,rfl,rfl,rfl,?_⟩
    refine aK.h_ (ι:={q:Nat×Wk // I q.1 q.2∧qy (wG g es q.1 q.2)=Z}) 1000 (fun _=>fG 99 [(6, .ptr 0 0),(7, .int .i64 0),(11, .ptr 1 0),(12, .os 2 0 4 1)])
     (fun q=>rk (some (.var [.aU, .aU, .int .i64 0, .int .i64 0])) g es q.1.2) (fun q=>q.1.1) ⟨(70,AQ c),IQ,hZ⟩ [] ?_ (fun _=>av _) ?_
    ·refine iP rfl ?_
     unfold rk kx AQ
     simp only [go_sem,fe,du,sn,dK,cr,cD (fe _),cD (du _),cD (dK _),cD (cr _),show ints []=[] from rfl,uD,tz]
    ·rintro ⟨⟨n,W⟩,xk,hF⟩
     simp only at xk hF
     obtain ⟨⟨n,rfl⟩,k1,k2,k3,k4⟩:=hI n W xk
     rw [wG] at hF
     unfold rk
     simp only [go_sem]
     refine aK.c_ (ι:={k:Nat // k≤4∧dD ((cS g es).drop k) W=dD (cS g es) W}) 1000 (fun k=>fG 99 [(6, .ptr 0 0),(7, .int .i64 0),(11, .ptr 1 0),(12, .os 2 0 4 1),(50, .os 2 0 4 1),(51, .int .i64 4),(52, .int .i64 k.1)])
      (fun _=>rk (some (.var [.aU, .aU, .int .i64 0, .int .i64 0])) g es W) (fun k=>4 - k.1) ⟨0,av _,rfl⟩ ?_ (fun _=>av _) ?_
     ·unfold rk kx
      simp only [go_sem,fe,du,sn,dK,cr]
      rfl
     rintro ⟨k,hk,aP⟩
     have er:k=0∨k=1∨k=2∨k=3∨k=4:=by omega
     rcases er with rfl | rfl | rfl | rfl | rfl
     ·have fQ:=Yu g es W k1
      have sy:=Yq W
      have nH:(gP W).1=0→dD ((cS g es).drop 1) W=dD (cS g es) W:=fun h=>by rw [← aP];exact (HA (Fs:=cS g es) (k:=0) (show 0<4 by decide) h).symm
      have rY:¬ (gP W).1=0→dD (cS g es) W=gP W:=fun h=>by rw [← aP];exact HE (Fs:=cS g es) (k:=0) (show 0<4 by decide) h
      generalize gP W=z at *
      obtain ⟨z1,z2⟩:=z
      unfold mC at sy
      simp only [false_and,true_and,false_or,or_false] at sy nH rY
      unfold rk
      simp only [go_sem,bB,bf]
      refine ⟨by omega,Ik (o:=(some (.var [.aU, .aU, .int .i64 0, .int .i64 0]))) (g:=g) (es:=es) (W:=W) (z:=(z1,z2)) fQ ?_ (fun h=>?_) (fun h=>?_)⟩
      ·rcases sy with ⟨rfl,rfl⟩ | rfl
       ·unfold rk
        refine aK.go 1000 ?_
        simp only [go_sem]
        refine ⟨⟨1,by omega,nH rfl⟩,?_,by simp only;omega⟩
        unfold kx
        simp only [go_sem,fe,du,sn,dK,cr,cD (fe _),cD (du _),cD (dK _),cD (cr _)]
        all_goals rfl
       ·have hsc:=rY (by decide)
        have oO:=fZ (n+1) W xk (by rw [hsc];simp)
        rw [hsc] at oO hF
        rw [if_neg (by simp)] at hF
        simp only at oO hF
        unfold rk
        refine aK.go 1000 ?_
        simp only [go_sem]
        refine aK.go 1000 ?_
        simp only [go_sem]
        refine aK.go 1000 ?_
        unfold qy at hF
        by_cases he:z2.e=0
        ·rw [if_neg (by simp [he])] at hF
         have fZ:=oO he
         have CF:=Ig z2.d fZ.1 fZ.2
         unfold kx
         simp only [go_sem,he]
         refine aq.bU [] CF (cE _ _ _) ⟨cr _,trivial⟩ ?_
         rw [jb];simp only [ite_self]
         refine aK.go 1000 ?_
         by_cases hn:(mD z2.d).2=0
         ·rw [if_neg (by simp [hn])] at hF
          simp only [go_sem,hn]
          refine aK.draw [.no, .no, .no, .no, .no, .no, .no, .no, .no, .no, .no, .no, .no, .no,⟨none,[0],[]⟩] 4 4 mixed rfl rfl (by decide) ?_
          simp only [go_sem,dx,HK,xB]
          refine aK.go 1000 ?_
          simp only [go_sem,xB]
          subst hF
          refine ⟨⟨vR _ _ _,?_,cE _ _ _⟩,rfl⟩
          rw [rQ rfl rfl];trivial
         ·rw [if_pos hn] at hF
          subst hF
          simp only [go_sem,hn,Si.aO]
          exact ⟨rfl,rfl⟩
        ·rw [if_pos he] at hF
         subst hF
         unfold kx
         simp only [go_sem,he]
         refine aK.go 1000 ?_
         simp only [go_sem,he]
         refine aK.draw [.no,⟨none,[],[0]⟩,⟨none,[],[0]⟩,⟨none,[],[0]⟩,⟨none,[],[0]⟩,⟨none,[0],[]⟩] 4 4 mixed rfl rfl (by decide) ?_
         simp only [go_sem,dx]
         refine aK.go 1000 ?_
         simp only [go_sem,Si.aO]
         exact ⟨rfl,rfl⟩
      ·simp only at h
       subst h
       simp at sy
      ·simp only at h
       subst h
       simp at sy
     ·have fQ:=ZG g es W k2 k3 k4
      have sy:=Ymn g es W
      have nH:(jC g es W).1=0→dD ((cS g es).drop 2) W=dD (cS g es) W:=fun h=>by rw [← aP];exact (HA (Fs:=cS g es) (k:=1) (show 1<4 by decide) h).symm
      have rY:¬ (jC g es W).1=0→dD (cS g es) W=jC g es W:=fun h=>by rw [← aP];exact HE (Fs:=cS g es) (k:=1) (show 1<4 by decide) h
      generalize jC g es W=z at *
      obtain ⟨z1,z2⟩:=z
      unfold mC at sy
      simp only [false_and,true_and,false_or,or_false] at sy nH rY
      unfold rk
      simp only [go_sem,bB,bf]
      refine ⟨by omega,Ik (o:=(some (.var [.aU, .aU, .int .i64 0, .int .i64 0]))) (g:=g) (es:=es) (W:=W) (z:=(z1,z2)) fQ ?_ (fun h=>?_) (fun h=>?_)⟩
      ·rcases sy with ⟨rfl,rfl⟩ | rfl | rfl
       ·unfold rk
        refine aK.go 1000 ?_
        simp only [go_sem]
        refine ⟨⟨2,by omega,nH rfl⟩,?_,by simp only;omega⟩
        unfold kx
        simp only [go_sem,fe,du,sn,dK,cr,cD (fe _),cD (du _),cD (dK _),cD (cr _)]
        all_goals rfl
       ·have hsc:=rY (by decide)
        have tP:=nT n W xk (by rw [hsc])
        rw [hsc] at tP hF
        rw [if_pos rfl] at hF
        unfold rk
        refine aK.go 1000 ?_
        simp only [go_sem]
        refine ⟨⟨(n,z2),tP,hF⟩,[],iP rfl ?_,by simp only;omega⟩
        unfold kx
        simp only [go_sem,fe,du,sn,dK,cr,cD (fe _),cD (du _),cD (dK _),cD (cr _)]
       ·have hsc:=rY (by decide)
        have oO:=fZ (n+1) W xk (by rw [hsc];simp)
        rw [hsc] at oO hF
        rw [if_neg (by simp)] at hF
        simp only at oO hF
        unfold rk
        refine aK.go 1000 ?_
        simp only [go_sem]
        refine aK.go 1000 ?_
        simp only [go_sem]
        refine aK.go 1000 ?_
        unfold qy at hF
        by_cases he:z2.e=0
        ·rw [if_neg (by simp [he])] at hF
         have fZ:=oO he
         have CF:=Ig z2.d fZ.1 fZ.2
         unfold kx
         simp only [go_sem,he]
         refine aq.bU [] CF (cE _ _ _) ⟨cr _,trivial⟩ ?_
         rw [jb];simp only [ite_self]
         refine aK.go 1000 ?_
         by_cases hn:(mD z2.d).2=0
         ·rw [if_neg (by simp [hn])] at hF
          simp only [go_sem,hn]
          refine aK.draw [.no, .no, .no, .no, .no, .no, .no, .no, .no, .no, .no, .no, .no, .no,⟨none,[0],[]⟩] 4 4 mixed rfl rfl (by decide) ?_
          simp only [go_sem,dx,HK,xB]
          refine aK.go 1000 ?_
          simp only [go_sem,xB]
          subst hF
          refine ⟨⟨vR _ _ _,?_,cE _ _ _⟩,rfl⟩
          rw [rQ rfl rfl];trivial
         ·rw [if_pos hn] at hF
          subst hF
          simp only [go_sem,hn,Si.aO]
          exact ⟨rfl,rfl⟩
        ·rw [if_pos he] at hF
         subst hF
         unfold kx
         simp only [go_sem,he]
         refine aK.go 1000 ?_
         simp only [go_sem,he]
         refine aK.draw [.no,⟨none,[],[0]⟩,⟨none,[],[0]⟩,⟨none,[],[0]⟩,⟨none,[],[0]⟩,⟨none,[0],[]⟩] 4 4 mixed rfl rfl (by decide) ?_
         simp only [go_sem,dx]
         refine aK.go 1000 ?_
         simp only [go_sem,Si.aO]
         exact ⟨rfl,rfl⟩
      ·simp only at h
       subst h
       have hsc:=rY (by decide)
       have tP:=nT n W xk (by rw [hsc])
       rw [hsc] at tP hF
       rw [if_pos rfl] at hF
       refine aK.go 1000 ?_
       simp only [go_sem]
       refine ⟨⟨(n,z2),tP,hF⟩,[(3,4),(4,3)],iP rfl ?_,by simp only;omega⟩
       unfold kx
       simp only [go_sem,fe,du,sn,dK,cr,cD (fe _),cD (du _),cD (dK _),cD (cr _)]
      ·simp only at h
       subst h
       have hsc:=rY (by decide)
       have tP:=nT n W xk (by rw [hsc])
       rw [hsc] at tP hF
       rw [if_pos rfl] at hF
       refine aK.go 1000 ?_
       simp only [go_sem]
       refine ⟨⟨(n,z2),tP,hF⟩,[(3,7),(7,3)],iP rfl ?_,by simp only;omega⟩
       unfold kx
       simp only [go_sem,fe,du,sn,dK,cr,cD (fe _),cD (du _),cD (dK _),cD (cr _)]
     ·have fQ:=Yno g es W F1 hl k1 (by omega)
      have sy:=Yrg es W
      have nH:(lR es W).1=0→dD ((cS g es).drop 3) W=dD (cS g es) W:=fun h=>by rw [← aP];exact (HA (Fs:=cS g es) (k:=2) (show 2<4 by decide) h).symm
      have rY:¬ (lR es W).1=0→dD (cS g es) W=lR es W:=fun h=>by rw [← aP];exact HE (Fs:=cS g es) (k:=2) (show 2<4 by decide) h
      generalize lR es W=z at *
      obtain ⟨z1,z2⟩:=z
      unfold mC at sy
      simp only [false_and,true_and,false_or,or_false] at sy nH rY
      unfold rk
      simp only [go_sem,bB,bf,UG,UH,IH,UE,UF]
      refine Ik (o:=(some (.var [.aU, .aU, .int .i64 0, .int .i64 0]))) (g:=g) (es:=es) (W:=W) (z:=(z1,z2)) fQ ?_ (fun h=>?_) (fun h=>?_)
      ·rcases sy with ⟨rfl,rfl⟩ | rfl
       ·unfold rk
        refine aK.go 1000 ?_
        simp only [go_sem]
        refine ⟨⟨3,by omega,nH rfl⟩,?_,by simp only;omega⟩
        unfold kx
        simp only [go_sem,fe,du,sn,dK,cr,cD (fe _),cD (du _),cD (dK _),cD (cr _)]
        all_goals rfl
       ·have hsc:=rY (by decide)
        have tP:=nT n W xk (by rw [hsc])
        rw [hsc] at tP hF
        rw [if_pos rfl] at hF
        unfold rk
        refine aK.go 1000 ?_
        simp only [go_sem]
        refine ⟨⟨(n,z2),tP,hF⟩,[],iP rfl ?_,by simp only;omega⟩
        unfold kx
        simp only [go_sem,fe,du,sn,dK,cr,cD (fe _),cD (du _),cD (dK _),cD (cr _)]
      ·simp only at h
       subst h
       have hsc:=rY (by decide)
       have tP:=nT n W xk (by rw [hsc])
       rw [hsc] at tP hF
       rw [if_pos rfl] at hF
       refine aK.go 1000 ?_
       simp only [go_sem]
       refine ⟨⟨(n,z2),tP,hF⟩,[(3,4),(4,3)],iP rfl ?_,by simp only;omega⟩
       unfold kx
       simp only [go_sem,fe,du,sn,dK,cr,cD (fe _),cD (du _),cD (dK _),cD (cr _)]
      ·simp only at h
       subst h
       have hsc:=rY (by decide)
       have tP:=nT n W xk (by rw [hsc])
       rw [hsc] at tP hF
       rw [if_pos rfl] at hF
       refine aK.go 1000 ?_
       simp only [go_sem]
       refine ⟨⟨(n,z2),tP,hF⟩,[(3,7),(7,3)],iP rfl ?_,by simp only;omega⟩
       unfold kx
       simp only [go_sem,fe,du,sn,dK,cr,cD (fe _),cD (du _),cD (dK _),cD (cr _)]
     ·have fQ:=Ylt g es W F1 hl k1
      have sy:=Ymc es W
      have nH:(ji es W).1=0→dD ((cS g es).drop 4) W=dD (cS g es) W:=fun h=>by rw [← aP];exact (HA (Fs:=cS g es) (k:=3) (show 3<4 by decide) h).symm
      have rY:¬ (ji es W).1=0→dD (cS g es) W=ji es W:=fun h=>by rw [← aP];exact HE (Fs:=cS g es) (k:=3) (show 3<4 by decide) h
      generalize ji es W=z at *
      obtain ⟨z1,z2⟩:=z
      unfold mC at sy
      simp only [false_and,true_and,false_or,or_false] at sy nH rY
      unfold rk
      simp only [go_sem,bB,bf,UG,UH,IH,UE,UF]
      refine Ik (o:=(some (.var [.aU, .aU, .int .i64 0, .int .i64 0]))) (g:=g) (es:=es) (W:=W) (z:=(z1,z2)) fQ ?_ (fun h=>?_) (fun h=>?_)
      ·rcases sy with ⟨rfl,rfl⟩ | rfl
       ·unfold rk
        refine aK.go 1000 ?_
        simp only [go_sem]
        refine ⟨⟨4,by omega,nH rfl⟩,?_,by simp only;omega⟩
        unfold kx
        simp only [go_sem,fe,du,sn,dK,cr,cD (fe _),cD (du _),cD (dK _),cD (cr _)]
        all_goals rfl
       ·have hsc:=rY (by decide)
        have oO:=fZ (n+1) W xk (by rw [hsc];simp)
        rw [hsc] at oO hF
        rw [if_neg (by simp)] at hF
        simp only at oO hF
        unfold rk
        refine aK.go 1000 ?_
        simp only [go_sem]
        refine aK.go 1000 ?_
        simp only [go_sem]
        refine aK.go 1000 ?_
        unfold qy at hF
        by_cases he:z2.e=0
        ·rw [if_neg (by simp [he])] at hF
         have fZ:=oO he
         have CF:=Ig z2.d fZ.1 fZ.2
         unfold kx
         simp only [go_sem,he]
         refine aq.bU [] CF (cE _ _ _) ⟨cr _,trivial⟩ ?_
         rw [jb];simp only [ite_self]
         refine aK.go 1000 ?_
         by_cases hn:(mD z2.d).2=0
         ·rw [if_neg (by simp [hn])] at hF
          simp only [go_sem,hn]
          refine aK.draw [.no, .no, .no, .no, .no, .no, .no, .no, .no, .no, .no, .no, .no, .no,⟨none,[0],[]⟩] 4 4 mixed rfl rfl (by decide) ?_
          simp only [go_sem,dx,HK,xB]
          refine aK.go 1000 ?_
          simp only [go_sem,xB]
          subst hF
          refine ⟨⟨vR _ _ _,?_,cE _ _ _⟩,rfl⟩
          rw [rQ rfl rfl];trivial
         ·rw [if_pos hn] at hF
          subst hF
          simp only [go_sem,hn,Si.aO]
          exact ⟨rfl,rfl⟩
        ·rw [if_pos he] at hF
         subst hF
         unfold kx
         simp only [go_sem,he]
         refine aK.go 1000 ?_
         simp only [go_sem,he]
         refine aK.draw [.no,⟨none,[],[0]⟩,⟨none,[],[0]⟩,⟨none,[],[0]⟩,⟨none,[],[0]⟩,⟨none,[0],[]⟩] 4 4 mixed rfl rfl (by decide) ?_
         simp only [go_sem,dx]
         refine aK.go 1000 ?_
         simp only [go_sem,Si.aO]
         exact ⟨rfl,rfl⟩
      ·simp only at h
       subst h
       simp at sy
      ·simp only at h
       subst h
       simp at sy
     ·have hsc:dD (cS g es) W=(0,W):=aP.symm
      have oO:=fZ (n+1) W xk (by rw [hsc];simp)
      rw [hsc] at oO hF
      rw [if_neg (by simp)] at hF
      simp only at oO hF
      unfold qy at hF
      by_cases he:W.e=0
      ·rw [if_neg (by simp [he])] at hF
       have fZ:=oO he
       have CF:=Ig W.d fZ.1 fZ.2
       unfold rk kx
       simp only [go_sem,he,IH]
       refine aK.go 1000 ?_
       simp only [go_sem,he]
       refine aK.go 1000 ?_
       simp only [go_sem,he]
       refine aq.bU [] CF (cE _ _ _) ⟨cr _,trivial⟩ ?_
       rw [jb];simp only [ite_self]
       refine aK.go 1000 ?_
       by_cases hn:(mD W.d).2=0
       ·rw [if_neg (by simp [hn])] at hF
        simp only [go_sem,hn]
        refine aK.draw [.no, .no, .no, .no, .no, .no, .no, .no, .no, .no, .no, .no, .no, .no,⟨none,[0],[]⟩] 4 4 mixed rfl rfl (by decide) ?_
        simp only [go_sem,dx,HK,xB]
        refine aK.go 1000 ?_
        simp only [go_sem,xB]
        subst hF
        refine ⟨⟨vR _ _ _,?_,cE _ _ _⟩,rfl⟩
        rw [rQ rfl rfl];trivial
       ·rw [if_pos hn] at hF
        subst hF
        simp only [go_sem,hn,Si.aO]
        exact ⟨rfl,rfl⟩
      ·rw [if_pos he] at hF
       subst hF
       unfold rk kx
       simp only [go_sem,he,IH]
       refine aK.go 1000 ?_
       simp only [go_sem,he]
       refine aK.go 1000 ?_
       simp only [go_sem,he]
       refine aK.draw [.no,⟨none,[],[0]⟩,⟨none,[],[0]⟩,⟨none,[],[0]⟩,⟨none,[],[0]⟩,⟨none,[0],[]⟩] 4 4 mixed rfl rfl (by decide) ?_
       simp only [go_sem,dx]
       refine aK.go 1000 ?_
       simp only [go_sem,Si.aO]
       exact ⟨rfl,rfl⟩
end Go.Proofs
