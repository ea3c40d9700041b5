/- Part 46 of my own framework and of the walks of functions: Ya, Yb, Yc, Yd, Za, Ye, Yf, Yg, Yh, Yi, Vf, Yj, Zb, Zc, Zd, Ba, Bb, Bd, Be, Ca, Cb, Cc, Cd, Ce, AcsZb, Cf, Cg, Ch, Ci, Cj, Ck, Cl, Cm, Cn, Co, Cp, Cq. -/
import Derived.Test.YtfjbdamcmiglgaaGreatOwn45
abbrev jN:=@Decidable.byContradiction
abbrev pz:=@List.drop_of_length_le
abbrev i_:=@List.idxOf_lt_length_of_mem
abbrev m0:=@List.length_eraseIdx_of_lt
abbrev lE:=@List.mem_append_right
abbrev lQ:=@List.mem_flatMap
abbrev ow:=@List.mem_of_mem_eraseIdx
abbrev jq:=@Nat.one_lt_two
set_option linter.unusedVariables false
set_option linter.unusedSectionVars false
set_option linter.unusedSimpArgs false
namespace Go.Proofs
open Go Go.c8
theorem UU (h k s:Int):∀ l:List (Int×Int),fP (ly l k s) h=fP l h+if h=k then s else 0
 | []=>by
  simp only [ly,fP]
  by_cases e:h=k
  ·rw [if_pos e.symm,if_pos e];omega
  ·rw [if_neg (gA e),if_neg e];rfl
 | x :: r=>by
  have ih:=UU h k s r
  simp only [ly]
  split
  ·rename_i e
   simp only [fP]
   by_cases e2:x.1=h
   ·rw [if_pos e2,if_pos e2,if_pos (by omega)]
   ·rw [if_neg e2,if_neg e2,if_neg (by omega)];omega
  ·rename_i e
   simp only [fP]
   by_cases e2:x.1=h
   ·rw [if_pos e2,if_pos e2,if_neg (by omega)];omega
   ·rw [if_neg e2,if_neg e2,ih]
theorem Ls (k s:Int):∀ (l:List (Int×Int)) (h:Int),h∈(ly l k s).map Prod.fst↔h=k∨h∈l.map Prod.fst
 | [],h=>by simp [ly]
 | x :: r,h=>by
  have ih:=Ls k s r h
  simp only [ly]
  split
  ·rename_i e
   simp only [aB,aR]
   rw [← e];constructor
   ·rintro (h1 | h1);exact .inl h1;exact .inr (.inr h1)
   ·rintro (h1 | h1 | h1);exact .inl h1;exact .inl h1;exact .inr h1
  ·simp only [aB,aR,ih]
   constructor
   ·rintro (h1 | h1 | h1);exact .inr (.inl h1);exact .inl h1;exact .inr (.inr h1)
   ·rintro (h1 | h1 | h1);exact .inr (.inl h1);exact .inl h1;exact .inr (.inr h1)
theorem Ts (k s:Int):∀ (l:List (Int×Int)),(l.map Prod.fst).Nodup→((ly l k s).map Prod.fst).Nodup
 | [],_=>by simp [ly]
 | x :: r,h=>by
  simp only [aB,eY] at h
  simp only [ly]
  split
  ·rename_i e
   simp only [aB,eY]
   exact h
  ·rename_i e
   simp only [aB,eY]
   refine ⟨fun hm=>?_,Ts k s r h.2⟩
   rcases (Ls k s r x.1).1 hm with h1 | h1
   ·exact e h1
   ·exact h.1 h1
def v8 (l:List (Int×Int)):Prop:=(l.map Prod.fst).Nodup∧∀ h∈l.map Prod.fst,h<0
theorem Va {l:List (Int×Int)}:∀ (_:(l.map Prod.fst).Nodup) (x:Int×Int),x∈l→fP l x.1=x.2:=by
 induction l with
 | nil=>intro _ x h;cases h
 | cons a l ih =>
  intro hn x hx
  simp only [aB,eY] at hn
  simp only [fP]
  rcases aR.1 hx with rfl | hx
  ·rw [if_pos rfl]
  ·rw [if_neg (fun e:a.1=x.1=>hn.1 (by rw [e];exact mG hx))]
   exact ih hn.2 x hx
theorem Z8 {l:List (Int×Int)} {h:Int}:h ∉ l.map Prod.fst→fP l h=0:=by
 induction l with
 | nil=>intro _;rfl
 | cons a l ih =>
  intro hn
  simp only [aB,aR,not_or] at hn
  simp only [fP]
  rw [if_neg (gA hn.1)]
  exact ih hn.2
theorem VH {l:List (Int×Int)} (hl:v8 l) (p:Int→Bool) (hp:p 0=false):(l.map Prod.snd).any p=true↔∃ h,h<0∧p (fP l h)=true:=by
 rw [cT]
 constructor
 ·rintro ⟨y,hy,hpy⟩
  obtain ⟨x,hx,rfl⟩:=bZ.1 hy
  exact ⟨x.1,hl.2 _ (mG hx),by rw [Va hl.1 x hx];exact hpy⟩
 ·rintro ⟨h,_,NN⟩
  by_cases hm:h∈l.map Prod.fst
  ·obtain ⟨x,hx,rfl⟩:=bZ.1 hm
   exact ⟨x.2,mG hx,by rw [← Va hl.1 x hx];exact NN⟩
  ·rw [Z8 hm,hp] at NN;cases NN
mutual
theorem Lo (g:List Sy) (s:Int):∀ (t:Tm) (x:Int×List (Int×Int)),t.good=true→v8 x.2→(r9 g s t x).1=x.1+s*t.mf g∧v8 (r9 g s t x).2∧∀ h,h<0→fP (r9 g s t x).2 h=fP x.2 h+s*(t.cv (-1 - h):Int)
 | .mk k ts,x,hg,hx=>by
  obtain ⟨g1,g2,g3,g4⟩:=zk hg
  simp only [Tm.head,Tm.args] at g1 g2 g3 g4
  rw [r9,Tm.mf]
  by_cases hn:k<0
  ·rw [if_pos hn,if_pos hn]
   have rR:=g4 hn
   refine ⟨by simp only;omega,⟨Ts k s _ hx.1,fun h hm=>?_⟩,fun h hh=>?_⟩
   ·rcases (Ls k s _ h).1 hm with rfl | hm
    ·exact hn
    ·exact hx.2 h hm
   ·simp only
    rw [UU,Tm.cv,rR,Tm.sT]
    by_cases e:h=k
    ·rw [if_pos e,if_pos (by omega)];simp
    ·rw [if_neg e,if_neg (by omega)];simp
  ·rw [if_neg hn,if_neg hn]
   have yp:Tm.eH ts=true:=by rw [Tm.good,aC] at hg;exact hg.2
   obtain ⟨a1,a2,a3⟩:=SR g s ts (x.1+s*nE g k,x.2) yp hx
   refine ⟨?_,a2,fun h hh=>?_⟩
   ·rw [a1]
    have:=LD g ts 0 (nE g k)
    rw [Int.zero_add] at this
    rw [this,Int.mul_add]
    simp only;omega
   ·rw [a3 h hh,Tm.cv,if_neg (by omega),bp]
theorem SR (g:List Sy) (s:Int):∀ (ts:List Tm) (x:Int×List (Int×Int)),Tm.eH ts=true→v8 x.2→(oK g s ts x).1=x.1+s*Tm.pZ g ts 0∧v8 (oK g s ts x).2∧∀ h,h<0→fP (oK g s ts x).2 h=fP x.2 h+s*(Tm.sT (-1 - h) ts:Int)
 | [],x,_,hx=>by
  rw [oK]
  exact ⟨by simp [Tm.pZ],hx,fun h _=>by simp [Tm.sT]⟩
 | t :: ts,x,hg,hx=>by
  rw [Tm.eH,aC] at hg
  rw [oK]
  obtain ⟨a1,a2,a3⟩:=Lo g s t x hg.1 hx
  obtain ⟨b1,b2,b3⟩:=SR g s ts _ hg.2 a2
  refine ⟨?_,b2,fun h hh=>?_⟩
  ·rw [b1,a1,Tm.pZ]
   have:=LD g ts 0 (t.mf g)
   rw [this,Int.mul_add];omega
  ·rw [b3 h hh,a3 h hh,Tm.sT]
   push_cast
   rw [Int.mul_add];omega
end
theorem Lt (g:List Sy) {t u:Tm} (ht:t.good=true) (hu:u.good=true):(nW g t u).1=t.mf g - u.mf g∧v8 (nW g t u).2∧∀ h,h<0→fP (nW g t u).2 h=(t.cv (-1 - h):Int) - u.cv (-1 - h):=by
 have h0:v8 ([]:List (Int×Int)):=⟨by simp,fun h hh=>by simp at hh⟩
 obtain ⟨a1,a2,a3⟩:=Lo g 1 t (0,[]) ht h0
 obtain ⟨b1,b2,b3⟩:=Lo g (-1) u _ hu a2
 unfold nW
 refine ⟨by rw [b1,a1];simp only;omega,b2,fun h hh=>?_⟩
 rw [b3 h hh,a3 h hh]
 simp only [fP];omega
mutual
theorem Mg {v:Int} (hv : 0≤v):∀ t:Tm,t.dj (fun w=>w≠v)→t.cv v=0
 | .mk h ts,ha=>by
  rw [Tm.cv,VA hv ts ha.2]
  by_cases e:h = -1 - v
  ·exact absurd (by omega) (ha.1 (by omega))
  ·rw [if_neg e]
theorem VA {v:Int} (hv : 0≤v):∀ ts:List Tm,Tm.fA (fun w=>w≠v) ts→Tm.sT v ts=0
 | [],_=>rfl
 | t :: ts,ha=>by rw [Tm.sT,Mg hv t ha.1,VA hv ts ha.2]
end
theorem Yxl {v:Int} (hv : 0≤v) {t:Tm} (h:v ∉ t.vars):t.cv v=0 :=
 Mg hv t ((zm t).1 fun w hw e=>h (e ▸ hw))
theorem Fl (a b:Tm):fK a b=true↔∀ v,0≤v→b.cv v≤a.cv v:=by
 unfold fK
 rw [bj]
 constructor
 ·intro h v hv
  by_cases hm:v∈b.vars
  ·exact of_decide_eq_true (h v hm)
  ·rw [Yxl hv hm];exact av _
 ·intro h v hm
  exact decide_eq_true (h v (Zvr b v hm))
theorem Yh {g:List Sy} {t u:Tm} (ht:t.good=true) (hu:u.good=true):(((nW g t u).2.map Prod.snd).any fun n=>decide (n<0)) = !fK t u:=by
 obtain ⟨_,h2,h3⟩:=Lt g ht hu
 have h:=VH h2 (fun n=>decide (n<0)) rfl
 rw [dD,h,bU,← df,Fl]
 constructor
 ·rintro ⟨k,hk,hp⟩ e8
  have:=e8 (-1 - k) (by omega)
  have hp:=of_decide_eq_true hp
  rw [h3 k hk] at hp
  omega
 ·intro hn
  obtain ⟨v,hv⟩:=Classical.not_forall.1 hn
  obtain ⟨N_,EV⟩:=Classical.not_imp.1 hv
  refine ⟨-1 - v,by omega,decide_eq_true ?_⟩
  rw [h3 _ (by omega),show -1 - (-1 - v)=v by omega]
  omega
theorem YH {g:List Sy} {t u:Tm} (ht:t.good=true) (hu:u.good=true):(((nW g t u).2.map Prod.snd).any fun n=>decide (0<n)) = !fK u t:=by
 obtain ⟨_,h2,h3⟩:=Lt g ht hu
 have h:=VH h2 (fun n=>decide (0<n)) rfl
 rw [dD,h,bU,← df,Fl]
 constructor
 ·rintro ⟨k,hk,hp⟩ e8
  have:=e8 (-1 - k) (by omega)
  have hp:=of_decide_eq_true hp
  rw [h3 k hk] at hp
  omega
 ·intro hn
  obtain ⟨v,hv⟩:=Classical.not_forall.1 hn
  obtain ⟨N_,EV⟩:=Classical.not_imp.1 hv
  refine ⟨-1 - v,by omega,decide_eq_true ?_⟩
  rw [h3 _ (by omega),show -1 - (-1 - v)=v by omega]
  omega
theorem P7 {g:List Sy} {t u:Tm} (ht:t.good=true) (hu:u.good=true) (n:Int):tL (nW g t u) n=mP n (!fK u t) (!fK t u):=by
 unfold tL;rw [Yh ht hu,YH ht hu]
theorem J3 {g:List Sy} {t u:Tm} (ht:t.good=true) (hu:u.good=true) {n:Int}:tL (nW g t u) n=1↔0<n∧fK t u=true:=by
 rw [P7 ht hu];unfold mP
 by_cases h1 : 0<n∧(!fK t u)=false
 ·rw [if_pos h1];simpa using h1
 ·rw [if_neg h1]
  simp only [fh] at h1
  split<;>(constructor<;>intro h<;>first | omega | exact absurd h h1)
theorem J4 {g:List Sy} {t u:Tm} (ht:t.good=true) (hu:u.good=true) {n:Int}:tL (nW g t u) n = -1↔n<0∧fK u t=true:=by
 rw [P7 ht hu];unfold mP
 by_cases h1 : 0<n∧(!fK t u)=false
 ·rw [if_pos h1]
  constructor
  ·intro h;omega
  ·intro h;omega
 ·rw [if_neg h1]
  by_cases h2:n<0∧(!fK u t)=false
  ·rw [if_pos h2];simpa using h2
  ·rw [if_neg h2]
   simp only [fh] at h2
   constructor
   ·intro h;omega
   ·intro h;exact absurd h h2
theorem JX (x:Int×List (Int×Int)) (n:Int):tL x n≠0:=by
 unfold tL mP
 split
 ·omega
 split<;>omega
theorem S7 (g:List Sy) (t u:Tm):dU g t u=if t=u then 0 else if (nW g t u).1≠0 then tL (nW g t u) (nW g t u).1 else
  if t.head<0∨u.head<0 then 2 else if t.head≠u.head then tL (nW g t u) (t.head - u.head) else gH g (nW g t u) t.args u.args:=by
 cases t;rw [dU];rfl
theorem E9 (g:List Sy) (t u:Tm):t.gr g u=if fK t u=false then false else if t.mf g≠u.mf g then decide (u.mf g<t.mf g) else if t.head<0∨u.head<0 then false else if t.head≠u.head then decide (u.head<t.head) else Tm.o_ g t.args u.args:=by
 cases t;rw [Tm.gr];rfl
theorem J2 {t u:Tm} (h1:t.head=u.head) (h2:t.args=u.args):t=u:=by
 cases t;cases u;simp only [Tm.head,Tm.args] at h1 h2;rw [h1,h2]
theorem LG (x:Int×List (Int×Int)) (n:Int):tL x n=1∨tL x n = -1∨tL x n=2:=by
 unfold tL mP
 split
 ·exact .inl rfl
 split
 ·exact .inr (.inl rfl)
 ·exact .inr (.inr rfl)
theorem Ry (g:List Sy) (x:Int×List (Int×Int)):∀ ts us:List Tm,gH g x ts us=0∨gH g x ts us=1∨gH g x ts us = -1∨gH g x ts us=2
 | [],_=>by rw [gH];simp
 | _ :: _,[]=>by rw [gH];simp
 | t :: ts,u :: us=>by
  rw [gH]
  split
  ·split
   ·exact .inr (.inr (.inr rfl))
   ·exact .inr (LG _ _)
  ·exact Ry g x ts us
theorem Sg (g:List Sy) (t u:Tm):dU g t u=0∨dU g t u=1∨dU g t u = -1∨dU g t u=2:=by
 rw [S7]
 split
 ·exact .inl rfl
 split
 ·exact .inr (LG _ _)
 split
 ·exact .inr (.inr (.inr rfl))
 split
 ·exact .inr (LG _ _)
 ·exact Ry _ _ _ _
def agree (g:List Sy) (t u:Tm):Prop:=(dU g t u=1↔t.gr g u=true)∧(dU g t u = -1↔u.gr g t=true)∧(dU g t u=0↔t=u)
theorem QZ {g:List Sy} {x y:Tm} (hx:x.good=true) (hy:y.good=true):∀ (ts us:List Tm),ts.length=us.length→(∀ t∈ts, ∀ u∈us,agree g t u) →
  (gH g (nW g x y) ts us=1↔Tm.o_ g ts us=true∧fK x y=true)∧(gH g (nW g x y) ts us = -1↔Tm.o_ g us ts=true∧fK y x=true)∧(gH g (nW g x y) ts us=0↔ts=us)
 | [],[],_,_=>by
  rw [gH,Tm.o_]
  exact ⟨⟨fun h=>by omega,fun h=>by cases h.1⟩,⟨fun h=>by omega,fun h=>by cases h.1⟩,by simp⟩
 | t :: ts,u :: us,hl,h=>by
  obtain ⟨a1,a2,a3⟩:=h t (by simp) u (by simp)
  have ih:=QZ hx hy ts us (by simpa using hl) (fun a ha b hb=>h a (by simp [ha]) b (by simp [hb]))
  rw [gH,Tm.o_,Tm.o_]
  by_cases e:t=u
  ·rw [if_neg (fun hn=>hn (a3.2 e)),if_pos e,if_pos e.symm]
   refine ⟨ih.1,ih.2.1,?_⟩
   rw [ih.2.2,e];simp
  ·have ep:dU g t u≠0:=fun h0=>e (a3.1 h0)
   rw [if_pos ep,if_neg e,if_neg (gA e)]
   by_cases h2:dU g t u=2
   ·rw [if_pos h2]
    refine ⟨⟨fun h=>by omega,fun h=>?_⟩,⟨fun h=>by omega,fun h=>?_⟩,⟨fun h=>by omega,fun h=>?_⟩⟩
    ·have:=a1.2 h.1;omega
    ·have:=a2.2 h.1;omega
    ·exact absurd (j9 h).1 e
   ·rw [if_neg h2]
    refine ⟨?_,?_,⟨fun h=>absurd h (JX _ _),fun h=>absurd (j9 h).1 e⟩⟩
    ·rw [J3 hx hy,← a1]
     constructor
     ·rintro ⟨h3,h4⟩
      refine ⟨?_,h4⟩
      rcases Sg g t u with h5 | h5 | h5 | h5<;>omega
     ·rintro ⟨h3,h4⟩;exact ⟨by omega,h4⟩
    ·rw [J4 hx hy,← a2]
     constructor
     ·rintro ⟨h3,h4⟩
      refine ⟨?_,h4⟩
      rcases Sg g t u with h5 | h5 | h5 | h5<;>omega
     ·rintro ⟨h3,h4⟩;exact ⟨by omega,h4⟩
def xB (g:List Sy) (t u:Tm):Bool:=if t.mf g≠u.mf g then decide (u.mf g<t.mf g) else if t.head<0∨u.head<0 then false else if t.head≠u.head then decide (u.head<t.head) else Tm.o_ g t.args u.args
theorem Qp (g:List Sy) (t u:Tm):t.gr g u=(fK t u&&xB g t u):=by
 rw [E9];unfold xB
 cases fK t u<;>simp
theorem LI (g:List Sy):∀ l:List Tm,Tm.o_ g l l=false
 | []=>rfl
 | a :: l=>by rw [Tm.o_,if_pos rfl];exact LI g l
theorem Rj (g:List Sy):∀ (n:Nat) (t u:Tm),t.size≤n→gM g t→gM g u→agree g t u
 | 0,t,_,h,_,_=>by have:=z8 t;omega
 | n+1,t,u,hn,ht,hu=>by
  have gt:=(p7 (mW ht.1).1).2.2
  have gu:=(p7 (mW hu.1).1).2.2
  have hW:=(Lt g gt gu).1
  unfold agree
  rw [S7,Qp g t u,Qp g u t]
  by_cases e:t=u
  ·subst e
   rw [if_pos rfl]
   have key:xB g t t=false:=by
    unfold xB
    rw [if_neg (fun h=>h rfl),if_neg (fun h=>h rfl:¬ t.head≠t.head),LI]
    split<;>rfl
   rw [key,ib]
   exact ⟨⟨fun h=>by omega,fun h=>by cases h⟩,⟨fun h=>by omega,fun h=>by cases h⟩,by simp⟩
  ·rw [if_neg e]
   by_cases c1:t.mf g=u.mf g
   ·rw [if_neg (by omega)]
    have r1:xB g t u=if t.head<0∨u.head<0 then false else if t.head≠u.head then decide (u.head<t.head) else Tm.o_ g t.args u.args:=by unfold xB;rw [if_neg (fun h=>h c1)]
    have r2:xB g u t=if u.head<0∨t.head<0 then false else if u.head≠t.head then decide (t.head<u.head) else Tm.o_ g u.args t.args:=by unfold xB;rw [if_neg (fun h=>h c1.symm)]
    by_cases c2:t.head<0∨u.head<0
    ·rw [if_pos c2] at r1 ⊢
     rw [if_pos c2.symm] at r2
     rw [r1,r2,ib,ib]
     exact ⟨⟨fun h=>by omega,fun h=>by cases h⟩,⟨fun h=>by omega,fun h=>by cases h⟩,⟨fun h=>by omega,fun h=>absurd h e⟩⟩
    ·rw [if_neg c2] at r1 ⊢
     rw [if_neg (fun h=>c2 h.symm)] at r2
     by_cases c3:t.head=u.head
     ·rw [if_neg (fun h=>h c3)] at r1 ⊢
      rw [if_neg (fun h=>h c3.symm)] at r2
      have hl:=Yur ht hu (by omega) c3
      have hA:=QZ (g:=g) gt gu t.args u.args hl (fun a ha b hb=>Rj g n a b (by have:=tA ha;have:=oM t;omega) (Le t ht a ha) (Le u hu b hb))
      rw [r1,r2,aC,aC]
      refine ⟨?_,?_,?_⟩
      ·rw [hA.1];exact And.comm
      ·rw [hA.2.1];exact And.comm
      ·rw [hA.2.2]
       exact ⟨fun h=>J2 c3 h,fun h=>absurd h e⟩
     ·rw [if_pos c3] at r1 ⊢
      rw [if_pos (gA c3)] at r2
      rw [r1,r2,aC,aC,decide_eq_true_eq,decide_eq_true_eq]
      refine ⟨?_,?_,⟨fun h=>absurd h (JX _ _),fun h=>absurd h e⟩⟩
      ·rw [J3 gt gu];exact ⟨fun h=>⟨h.2,by omega⟩,fun h=>⟨by omega,h.1⟩⟩
      ·rw [J4 gt gu];exact ⟨fun h=>⟨h.2,by omega⟩,fun h=>⟨by omega,h.1⟩⟩
   ·rw [if_pos (by omega)]
    have r1:xB g t u=decide (u.mf g<t.mf g):=by unfold xB;rw [if_pos c1]
    have r2:xB g u t=decide (t.mf g<u.mf g):=by unfold xB;rw [if_pos (gA c1)]
    rw [r1,r2,aC,aC,decide_eq_true_eq,decide_eq_true_eq]
    refine ⟨?_,?_,⟨fun h=>absurd h (JX _ _),fun h=>absurd h e⟩⟩
    ·rw [J3 gt gu,hW];exact ⟨fun h=>⟨h.2,by omega⟩,fun h=>⟨by omega,h.1⟩⟩
    ·rw [J4 gt gu,hW];exact ⟨fun h=>⟨h.2,by omega⟩,fun h=>⟨by omega,h.1⟩⟩
theorem LO {g:List Sy} {t u:Tm} (ht:gM g t) (hu:gM g u):decide (dU g t u=1)=t.gr g u:=by
 have:=(Rj g _ t u (ah _) ht hu).1
 rw [dD,decide_eq_true_eq];exact this
section
variable {α:Type} (same : α→α→Bool)
def qF (x : α):List α→Option (List α)
 | []=>none
 | y :: b=>if same x y=true then some b else (qF x b).map (y :: ·)
def de:List α→List α→List α
 | [],_=>[]
 | x :: a,b=>match qF same x b with
  | none=>x :: de a b
  | some b'=>de a b'
def lG:List α→List Bool→List α
 | y :: b,u :: us=>if u=true then lG b us else y :: lG b us
 | _,_=>[]
theorem Pj (y : α) (b:List α) (us:List Bool):lG (y :: b) (false :: us)=y :: lG b us:=by rw [lG];exact if_neg (by simp)
theorem T_:∀ b:List α,lG b (List.replicate b.length false)=b
 | []=>rfl
 | y :: b=>by rw [ax,fM,lG,if_neg (by simp),T_ b]
def CR (x : α):List α→List Bool→Nat→Option Nat
 | y :: b,u :: us,k=>if (!u&&same x y)=true then some k else CR x b us (k+1)
 | _,_,_=>none
theorem Qq {b0:List α} {D0:List Bool} (hl:D0.length=b0.length) (x : α):∀ (n k:Nat),b0.length - k=n→k≤b0.length→fk (JR same b0 D0 x) n k=CR same x (b0.drop k) (D0.drop k) k
 | 0,k,h,hk=>by
  have:k=b0.length:=by omega
  subst this
  rw [fk,aV]
  cases D0.drop b0.length<;>rfl
 | n+1,k,h,hk=>by
  have h1:k<b0.length:=by omega
  have h2:k<D0.length:=by omega
  have hg:D0.getD k false=D0[k]:=by simp [List.getD,h2]
  rw [fk,Yxz h1,hg,ao h1,ao h2,CR,Qq hl x n (k+1) (by omega) (by omega)]
theorem Qs (x : α):∀ (b:List α) (us:List Bool) (k:Nat),us.length=b.length→(CR same x b us k=none→qF same x (lG b us)=none)∧∀ j,CR same x b us k=some j→k≤j∧qF same x (lG b us)=some (lG b (us.set (j - k) true))
 | [],us,k,_=>by
  cases us<;>exact ⟨fun _=>rfl,fun j h=>by cases h⟩
 | y :: b,[],k,h=>by simp at h
 | y :: b,u :: us,k,h=>by
  obtain ⟨i1,i2⟩:=Qs x b us (k+1) (by simpa using h)
  rw [CR]
  cases u with
  | true =>
   simp only [Bool.not_true,dg,a_,if_false]
   rw [lG,if_pos rfl]
   refine ⟨i1,fun j hj=>?_⟩
   obtain ⟨j1,j2⟩:=i2 j hj
   refine ⟨by omega,?_⟩
   rw [j2,show j - k=(j - (k+1))+1 by omega,cW,lG,if_pos rfl]
  | false =>
   simp only [Bool.not_false,cy]
   rw [Pj,qF]
   cases hs:same x y with
   | true =>
    simp only [if_true]
    refine ⟨fun h=>(by cases h),fun j hj=>?_⟩
    cases hj
    refine ⟨ah _,?_⟩
    rw [en,c_,lG,if_pos rfl]
   | false =>
    simp only [a_,if_false]
    refine ⟨fun h=>by rw [i1 h];rfl,fun j hj=>?_⟩
    obtain ⟨j1,j2⟩:=i2 j hj
    refine ⟨by omega,?_⟩
    rw [j2,show j - k=(j - (k+1))+1 by omega,cW,Pj];rfl
theorem LS (b0:List α):∀ (a:List α) (us:List Bool),us.length=b0.length→xL same b0 a us=de same a (lG b0 us)
 | [],_,_=>by rw [xL,de]
 | x :: a,us,hl=>by
  rw [xL,de]
  have e1:=Qq same hl x b0.length 0 (by omega) (av _)
  rw [dn,dn] at e1
  obtain ⟨h1,h2⟩:=Qs same x b0 us 0 hl
  rw [e1]
  cases hf:CR same x b0 us 0 with
  | none=>rw [h1 hf];simp only;rw [LS b0 a us hl]
  | some k =>
   rw [(h2 k hf).2]
   simp only [gR]
   rw [LS b0 a (us.set k true) (by rw [bg];exact hl)]
theorem Ag (a b:List α):xL same b a (List.replicate b.length false)=de same a b:=by
 rw [LS same b a _ (by simp),T_]
theorem J1 (x : α):∀ (b:List α) (n:Int),0≤n→(dJ (fun y=>same x y) b n<0→qF same x b=none)∧(¬ dJ (fun y=>same x y) b n<0→n≤dJ (fun y=>same x y) b n∧qF same x b=some (b.take (dJ (fun y=>same x y) b n - n).toNat++b.drop ((dJ (fun y=>same x y) b n - n).toNat+1)))
 | [],n,_=>by rw [dJ];exact ⟨fun _=>rfl,fun h=>by omega⟩
 | y :: b,n,hn=>by
  obtain ⟨i1,i2⟩:=J1 x b (n+1) (by omega)
  rw [dJ,qF]
  cases hs:same x y with
  | true =>
   simp only [if_true]
   refine ⟨fun h=>by omega,fun _=>⟨qI _,?_⟩⟩
   rw [Int.sub_self];rfl
  | false =>
   simp only [a_,if_false]
   refine ⟨fun h=>by rw [i1 h];rfl,fun h=>?_⟩
   obtain ⟨j1,j2⟩:=i2 h
   refine ⟨by omega,?_⟩
   rw [j2,show (dJ (fun y=>same x y) b (n+1) - n).toNat=(dJ (fun y=>same x y) b (n+1) - (n+1)).toNat+1 by omega,eW,List.drop_succ_cons];rfl
end
theorem IG:∀ a b:List Li,eK a b=de ew a b
 | [],_=>by rw [eK,de]
 | x :: a,b=>by
  rw [eK,de]
  obtain ⟨h1,h2⟩:=J1 ew x b 0 (qI _)
  split
  ·rename_i h;rw [h1 h];simp only;rw [IG a b]
  ·rename_i h;rw [(h2 h).2,Int.sub_zero];simp only;rw [IG a];rfl
theorem II:∀ a b:List Tm,dY a b=de rX a b
 | [],_=>by rw [dY,de]
 | x :: a,b=>by
  rw [dY,de]
  obtain ⟨h1,h2⟩:=J1 rX x b 0 (qI _)
  have he:(fun y=>decide (x=y))=fun y=>rX x y:=rfl
  rw [he]
  split
  ·rename_i h;rw [h1 h];simp only;rw [II a b]
  ·rename_i h;rw [(h2 h).2,Int.sub_zero];simp only;rw [II a];rfl
theorem Bn {α:Type} (same : α→α→Bool):∀ (a b:List α), ∀ x∈de same a b,x∈a
 | [],_,x,h=>by rw [de] at h;cases h
 | y :: a,b,x,h=>by
  rw [de] at h
  split at h
  ·rcases aR.1 h with rfl | h
   ·simp
   ·exact cu _ (Bn same a b x h)
  ·exact cu _ (Bn same a _ x h)
theorem Tp {α:Type} {f h : α→α→Bool} {a b:List α} (he:∀ x∈a, ∀ y∈b,f x y=h x y):oQ f a b=oQ h a b:=by
 have:∀ (b:List α),(∀ x∈a, ∀ y∈b,f x y=h x y)→(b.all fun y=>a.any fun x=>f x y)=b.all fun y=>a.any fun x=>h x y:=by
  intro b
  induction b with
  | nil=>intro _;rfl
  | cons y b ih =>
   intro hb
   rw [j8,j8,ih fun x hx z hz=>hb x hx z (by simp [hz])]
   congr 1
   have:∀ l:List α,(∀ x∈l,f x y=h x y)→(l.any fun x=>f x y)=l.any fun x=>h x y:=by
    intro l
    induction l with
    | nil=>intro _;rfl
    | cons z l ihl=>intro hz;rw [eh,eh,hz z (by simp),ihl fun x hx=>hz x (by simp [hx])]
   exact this a fun x hx=>hb x hx y (by simp)
 unfold oQ;rw [this b he]
theorem RH {α:Type} (p : α→Bool):∀ b:List α,(!b.any fun y=>!p y)=b.all p
 | []=>rfl
 | y :: b=>by
  rw [eh,j8,← RH p b]
  cases p y<;>simp
theorem VP {g:List Sy} {a b:List Tm} (ha:∀ x∈a,gM g x) (hb:∀ x∈b,gM g x):mO g a b=oQ (Tm.gr g) a b:=by
 have h1:mO g a b=oQ (fun x y=>decide (dU g x y=1)) a b:=by
  unfold mO oQ
  rw [RH (fun y=>uc g a y),Bool.and_comm];rfl
 rw [h1]
 exact Tp fun x hx y hy=>LO (ha x hx) (hb y hy)
theorem Yh6 {g:List Sy} {a b:List Tm} (ha:∀ x∈a,gM g x) (hb:∀ x∈b,gM g x):pV g a b=tK rX (Tm.gr g) a b:=by
 unfold pV tK
 have m1:∀ x∈de rX a b,gM g x:=fun x hx=>ha x (Bn rX a b x hx)
 have m2:∀ x∈de rX b a,gM g x:=fun x hx=>hb x (Bn rX b a x hx)
 rw [II,II,Ag,Ag,VP m1 m2,VP m2 m1]
theorem Yuz {g:List Sy} {a b:Li} (ha:a.check g=0) (hb:b.check g=0) (ra:B5 g a) (rb:B5 g b):zt g a b=decide (xK g a b=1):=by
 unfold zt qk xK
 rw [if_neg (fun h=>h ha),if_neg (fun h=>h hb),Yh6 (P4 ra) (P4 rb)]
 simp
theorem UA (g:List Sy) (a:List Li):∀ b:List Li,kB g a b=oQ (zt g) a b
 | []=>by rw [kB];simp [oQ]
 | y :: b=>by
  rw [kB,Ylu,UA g a b]
  cases a.any fun x=>zt g x y<;>simp
theorem VB {g:List Sy} {a b:List Li} (ha:∀ x∈a,x.check g=0∧B5 g x) (hb:∀ x∈b,x.check g=0∧B5 g x):kB g a b=oQ (fun x y=>decide (xK g x y=1)) a b:=by
 rw [UA]
 exact Tp fun x hx y hy=>Yuz (ha x hx).1 (hb y hy).1 (ha x hx).2 (hb y hy).2
theorem PH {g:List Sy} {c:List Li} (h:jm g c):∀ x∈c,x.check g=0∧B5 g x:=fun x hx=>⟨(xR h.1).2.2 x hx,tX h hx⟩
theorem Yr9 {g:List Sy} {a b:List Li} (ha:jm g a) (hb:jm g b):oY g a b=(rB g a b,0):=by
 unfold oY rB tK
 have m1:∀ x∈de ew a b,x.check g=0∧B5 g x:=fun x hx=>PH ha x (Bn ew a b x hx)
 have m2:∀ x∈de ew b a,x.check g=0∧B5 g x:=fun x hx=>PH hb x (Bn ew b a x hx)
 rw [if_neg (fun h=>h ha.1),if_neg (fun h=>h hb.1),IG,IG,Ag,Ag,VB m1 m2,VB m2 m1]
 split
 ·rfl
 split
 ·rfl
 split
 ·rfl
 ·rfl
section
variable {α:Type}
def dT (same : α→α→Bool) (x : α):List α→Nat
 | []=>0
 | y :: l=>(if same x y=true then 1 else 0)+dT same x l
structure oT (same : α→α→Bool):Prop where
 refl:∀ x,same x x=true
 symm:∀ x y,same x y=true→same y x=true
 trans:∀ x y z,same x y=true→same y z=true→same x z=true
variable {same : α→α→Bool}
theorem oT.congr (h:oT same) {x y : α} (hs:same x y=true) (z : α):same z x=same z y:=by
 rw [dD]
 exact ⟨fun h1=>h.trans _ _ _ h1 hs,fun h1=>h.trans _ _ _ h1 (h.symm _ _ hs)⟩
theorem oT.CP (h:oT same) {x y : α} (hs:same x y=true) (z : α):same x z=same y z:=by
 rw [dD]
 exact ⟨fun h1=>h.trans _ _ _ (h.symm _ _ hs) h1,fun h1=>h.trans _ _ _ hs h1⟩
theorem RX (h:oT same) {x y : α} (hs:same x y=true):∀ l,dT same x l=dT same y l
 | []=>rfl
 | z :: l=>by rw [dT,dT,RX h hs l,h.CP hs]
theorem FC (h:oT same) {x : α}:∀ {l:List α},x∈l→0<dT same x l
 | y :: l,hm=>by
  rw [dT]
  rcases aR.1 hm with rfl | hm
  ·rw [if_pos (h.refl _)];omega
  ·have:=FC h hm;omega
theorem IH {x : α}:∀ {l:List α},0<dT same x l→∃ y∈l,same x y=true
 | y :: l,hp=>by
  rw [dT] at hp
  by_cases hs:same x y=true
  ·exact ⟨y,by simp,hs⟩
  ·rw [if_neg hs] at hp
   obtain ⟨z,h1,h2⟩:=IH (x:=x) (l:=l) (by omega)
   exact ⟨z,by simp [h1],h2⟩
theorem OJ (h:oT same) (x : α):∀ b:List α,(qF same x b=none→dT same x b=0)∧∀ b',qF same x b=some b'→∀ z,dT same z b=dT same z b'+if same z x=true then 1 else 0
 | []=>⟨fun _=>rfl,fun b' h=>by rw [qF] at h;cases h⟩
 | y :: b=>by
  obtain ⟨i1,i2⟩:=OJ h x b
  rw [qF]
  by_cases hs:same x y=true
  ·rw [if_pos hs]
   refine ⟨fun h=>(by cases h),fun b' e z=>?_⟩
   cases e
   rw [dT,h.congr hs z];omega
  ·rw [if_neg hs]
   constructor
   ·intro e
    rw [dT,if_neg hs,i1 (by simpa using e)]
   ·intro b' e z
    cases hr:qF same x b with
    | none=>rw [hr] at e;cases e
    | some b1 =>
     rw [hr] at e
     cases e
     rw [dT,dT,i2 b1 hr z];omega
theorem zn (h:oT same):∀ (a b:List α) (z : α),dT same z (de same a b)=dT same z a - dT same z b
 | [],b,z=>by rw [de,dT];omega
 | x :: a,b,z=>by
  obtain ⟨i1,i2⟩:=OJ h x b
  rw [de]
  cases hr:qF same x b with
  | none =>
   simp only
   rw [dT,dT,zn h a b z]
   by_cases hs:same z x=true
   ·have:=RX h hs b
    rw [i1 hr] at this
    rw [if_pos hs];omega
   ·rw [if_neg hs];omega
  | some b' =>
   simp only
   rw [zn h a b' z,i2 b' hr z,dT];omega
variable {gt : α→α→Bool}
def xM (same gt : α→α→Bool):Prop:=∀ x x' y y',same x x'=true→same y y'=true→gt x y=gt x' y'
theorem Cy (h:oT same) (hg:xM same gt) (a b:List α):oQ gt a b=true↔(∀ y,0<dT same y b→∃ x,0<dT same x a∧gt x y=true)∧∃ x,0<dT same x a:=by
 unfold oQ
 rw [aC,bj,decide_eq_true_eq]
 constructor
 ·rintro ⟨h1,h2⟩
  refine ⟨fun y hy=>?_,?_⟩
  ·obtain ⟨y',m,s⟩:=IH hy
   obtain ⟨x,m2,hx⟩:=cT.1 (h1 y' m)
   exact ⟨x,FC h m2,by rw [hg x x y y' (h.refl _) s];exact hx⟩
  ·obtain ⟨x,l,rfl⟩:=List.exists_cons_of_length_pos h2
   exact ⟨x,FC h (by simp)⟩
 ·rintro ⟨h1,x0,h2⟩
  refine ⟨fun y hy=>?_,?_⟩
  ·obtain ⟨x,c,hx⟩:=h1 y (FC h hy)
   obtain ⟨x',m,s⟩:=IH c
   exact cT.2 ⟨x',m,by rw [← hg x x' y y s (h.refl _)];exact hx⟩
  ·obtain ⟨x',m,_⟩:=IH h2
   exact List.length_pos_of_mem m
theorem L7 (h:oT same) (a b:List α):a.length+b.length=0↔∀ x,dT same x a=0∧dT same x b=0:=by
 constructor
 ·intro e x
  have e1:a=[]:=ic.1 (by omega)
  have e2:b=[]:=ic.1 (by omega)
  rw [e1,e2];exact ⟨rfl,rfl⟩
 ·intro e
  have key:∀ l:List α,(∀ x,dT same x l=0)→l.length=0:=fun l hl=>by
   cases l with
   | nil=>rfl
   | cons x l=>have:=FC h (x:=x) (l:=x :: l) (by simp);have:=hl x;omega
  rw [key a fun x=>(e x).1,key b fun x=>(e x).2]
theorem Yfk (h:oT same) (hg:xM same gt) {a a' b b':List α} (h1:∀ x,dT same x a=dT same x a') (h2:∀ x,dT same x b=dT same x b'):tK same gt a b=tK same gt a' b':=by
 have e1:∀ x,dT same x (de same a b)=dT same x (de same a' b'):=fun x=>by rw [zn h,zn h,h1,h2]
 have e2:∀ x,dT same x (de same b a)=dT same x (de same b' a'):=fun x=>by rw [zn h,zn h,h1,h2]
 have o1:oQ gt (de same a b) (de same b a)=oQ gt (de same a' b') (de same b' a'):=by
  rw [dD,Cy h hg,Cy h hg];simp only [e1,e2]
 have o2:oQ gt (de same b a) (de same a b)=oQ gt (de same b' a') (de same a' b'):=by
  rw [dD,Cy h hg,Cy h hg];simp only [e1,e2]
 have o3:(de same a b).length+(de same b a).length=0↔(de same a' b').length+(de same b' a').length=0:=by
  rw [L7 h,L7 h];simp only [e1,e2]
 unfold tK
 simp only [Ag,o1,o2,o3]
end
theorem Ys1:oT rX:=⟨fun x=>by simp [rX],fun x y h=>by simp [rX] at h ⊢;exact h.symm,fun x y z h1 h2=>by simp [rX] at h1 h2 ⊢;exact h1.trans h2⟩
theorem Ykt (gt:Tm→Tm→Bool):xM rX gt:=fun x x' y y' h1 h2=>by
 simp [rX] at h1 h2;rw [h1,h2]
theorem H_ (a b:Li):ew a b=true↔a.neg=b.neg∧((a.l=b.l∧a.r=b.r)∨(a.l=b.r∧a.r=b.l)):=by simp [ew,nk]
theorem Zk:oT ew:=by
 refine ⟨fun x=>?_,fun x y h=>?_,fun x y z h1 h2=>?_⟩
 ·rw [H_];exact ⟨rfl, .inl ⟨rfl,rfl⟩⟩
 ·rw [H_] at h ⊢
  rcases h with ⟨a,⟨b,c⟩ | ⟨b,c⟩⟩
  ·exact ⟨a.symm, .inl ⟨b.symm,c.symm⟩⟩
  ·exact ⟨a.symm, .inr ⟨c.symm,b.symm⟩⟩
 ·rw [H_] at h1 h2 ⊢
  rcases h1 with ⟨a,⟨b,c⟩ | ⟨b,c⟩⟩<;>rcases h2 with ⟨a',⟨b',c'⟩ | ⟨b',c'⟩⟩
  ·exact ⟨a.trans a', .inl ⟨b.trans b',c.trans c'⟩⟩
  ·exact ⟨a.trans a', .inr ⟨b.trans b',c.trans c'⟩⟩
  ·exact ⟨a.trans a', .inr ⟨b.trans c',c.trans b'⟩⟩
  ·exact ⟨a.trans a', .inl ⟨b.trans c',c.trans b'⟩⟩
theorem Py {a b:Li} (h:ew a b=true) (x:Tm):dT rX x (ko a)=dT rX x (ko b):=by
 rw [H_] at h
 obtain ⟨e,⟨h1,h2⟩ | ⟨h1,h2⟩⟩:=h
 ·unfold ko;rw [e,h1,h2]
 ·unfold ko
  rw [e,h1,h2]
  split<;>simp only [dT]<;>omega
theorem Yic {g:List Sy} {a a' b b':Li} (h1:ew a a'=true) (h2:ew b b'=true):xK g a b=xK g a' b' :=
 Yfk Ys1 (Ykt _) (Py h1) (Py h2)
theorem Ynd (g:List Sy):xM ew fun x y=>decide (xK g x y=1):=fun x x' y y' h1 h2=>by simp only [Yic (g:=g) h1 h2]
mutual
def Tm.ap (f:Int→Tm):Tm→Tm
 | .mk h ts=>if h<0 then f (-1 - h) else .mk h (Tm.n7 f ts)
def Tm.n7 (f:Int→Tm):List Tm→List Tm
 | []=>[]
 | t :: ts=>t.ap f :: Tm.n7 f ts
end
theorem Er (f:Int→Tm):∀ ts,Tm.n7 f ts=ts.map (Tm.ap f)
 | []=>rfl
 | t :: ts=>by simp [Tm.n7,Er f ts]
theorem EB {f:Int→Tm} {t:Tm} (h:t.head<0):t.ap f=f (-1 - t.head):=by
 cases t;rw [Tm.ap];exact if_pos h
theorem EA {f:Int→Tm} {t:Tm} (h:¬ t.head<0):t.ap f = .mk t.head (t.args.map (Tm.ap f)):=by
 cases t;rw [Tm.ap,Er];exact if_neg h
mutual
theorem CH (bs:List Bd):∀ t:Tm,t.pd bs=t.ap (oh bs)
 | .mk h ts=>by rw [Tm.pd,Tm.ap,P_ bs ts]
theorem P_ (bs:List Bd):∀ ts:List Tm,Tm.JP bs ts=Tm.n7 (oh bs) ts
 | []=>rfl
 | t :: ts=>by rw [Tm.JP,Tm.n7,CH bs t,P_ bs ts]
end
mutual
theorem Qi (bs:List Bd):∀ t:Tm,t.good=true→t.sub bs=t.ap (oh bs)
 | .mk h ts,hg=>by
  have ha:=qw hg
  have hh:=(zk hg).2.2.2
  simp only [Tm.head,Tm.args] at ha hh
  rw [Tm.sub,Tm.ap,Pq bs ts ha]
  split
  ·rename_i hn
   rw [hh hn]
   unfold qb oh
   simp only [Tm.head]
   rw [show -1 - (-1 - h)=h by omega]
  ·rfl
theorem Pq (bs:List Bd):∀ ts:List Tm,(∀ t∈ts,t.good=true)→Tm.sf bs ts=Tm.n7 (oh bs) ts
 | [],_=>rfl
 | t :: ts,h=>by rw [Tm.sf,Tm.n7,Qi bs t (h t (by simp)),Pq bs ts fun x hx=>h x (by simp [hx])]
end
mutual
theorem FM {f k:Int→Tm}:∀ t:Tm,t.dj (fun v=>f v=k v)→t.ap f=t.ap k
 | .mk h ts,hv=>by
  rw [Tm.dj] at hv
  rw [Tm.ap,Tm.ap,S3 ts hv.2]
  split
  ·rename_i hn;exact hv.1 hn
  ·rfl
theorem S3 {f k:Int→Tm}:∀ ts:List Tm,Tm.fA (fun v=>f v=k v) ts→Tm.n7 f ts=Tm.n7 k ts
 | [],_=>rfl
 | t :: ts,hv=>by
  rw [Tm.fA] at hv
  rw [Tm.n7,Tm.n7,FM t hv.1,S3 ts hv.2]
end
mutual
theorem J0 {f k:Int→Tm}:∀ t:Tm,t.good=true→t.ap f=t.ap k→t.dj (fun v=>f v=k v)
 | .mk h ts,hg,he=>by
  have ha:=qw hg
  have hh:=(zk hg).2.2.2
  simp only [Tm.head,Tm.args] at ha hh
  rw [Tm.ap,Tm.ap] at he
  rw [Tm.dj]
  by_cases hn:h<0
  ·rw [if_pos hn,if_pos hn] at he
   exact ⟨fun _=>he,by rw [hh hn];trivial⟩
  ·rw [if_neg hn,if_neg hn] at he
   injection he with _ he
   exact ⟨fun h=>absurd h hn,OM ts ha he⟩
theorem OM {f k:Int→Tm}:∀ ts:List Tm,(∀ t∈ts,t.good=true)→Tm.n7 f ts=Tm.n7 k ts→Tm.fA (fun v=>f v=k v) ts
 | [],_,_=>trivial
 | t :: ts,hg,he=>by
  rw [Tm.n7,Tm.n7] at he
  injection he with h1 h2
  exact ⟨J0 t (hg t (by simp)) h1,OM ts (fun x hx=>hg x (by simp [hx])) h2⟩
end
theorem Ru {α β:Type} (k : α→β):∀ (a:List α), ∀ p∈a.zip (a.map k),k p.1=p.2
 | x :: a,p,h=>by
  rw [aB,fm] at h
  rcases aR.1 h with rfl | h
  ·rfl
  ·exact Ru k a p h
theorem RM {α β:Type} (k : α→β):∀ (a:List α) (b:List β),a.length=b.length→(∀ p∈a.zip b,k p.1=p.2)→a.map k=b
 | [],[],_,_=>rfl
 | x :: a,y :: b,hl,h=>by
  rw [aB,RM k a b (by simpa using hl) fun p hp=>h p (by rw [fm];simp [hp]),h (x,y) (by rw [fm];simp)]
theorem Uv {f:Int→Tm}:∀ (S:List (Tm×Tm)) (m:List Bd),(∀ x∈S,x.1.ap f=x.2)→(∀ b∈m,f b.v=b.t)→∃ m',fD S m=some m'∧∀ b∈m',f b.v=b.t:=by
 intro S m
 induction S,m using fD.induct with
 | case1 m=>intro _ h;exact ⟨m,by rw [fD],h⟩
 | case2 x r m hv c hf he ih =>
  intro h1 h2
  obtain ⟨m',a1,a2⟩:=ih (fun y hy=>h1 y (by simp [hy])) h2
  exact ⟨m',by rw [fD,if_pos hv,hf];simp only [if_pos he];exact a1,a2⟩
 | case3 x r m hv c hf he =>
  intro h1 h2
  refine absurd ?_ he
  have e1:=h2 c (bJ hf)
  have e2:=h1 x (by simp)
  have e3:=gL hf
  simp only [beq_iff_eq] at e3
  rw [EB (by omega),← e3] at e2
  rw [← e1,e2]
 | case4 x r m hv hf ih =>
  intro h1 h2
  have e2:=h1 x (by simp)
  rw [EB (by omega)] at e2
  obtain ⟨m',a1,a2⟩:=ih (fun y hy=>h1 y (by simp [hy])) (fun b hb=>by
   rcases aW.1 hb with hb | hb
   ·exact h2 b hb
   ·rw [aM.1 hb];exact e2)
  exact ⟨m',by rw [fD,if_pos hv,hf];exact a1,a2⟩
 | case5 x r m hv hc =>
  intro h1 _
  have e2:=h1 x (by simp)
  rw [EA (by omega)] at e2
  rcases hc with hc | hc
  ·exact absurd (by rw [← e2];rfl) hc
  ·exact absurd (by rw [← e2];simp [Tm.args]) hc
 | case6 x r m hv hc ih =>
  intro h1 h2
  have e2:=h1 x (by simp)
  rw [EA (by omega)] at e2
  have e3:x.2.args=x.1.args.map (Tm.ap f):=by rw [← e2];rfl
  obtain ⟨m',a1,a2⟩:=ih (fun y hy=>by
   rcases aW.1 hy with hy | hy
   ·have hy:=cU.1 hy
    rw [e3] at hy
    exact Ru _ _ y hy
   ·exact h1 y (by simp [hy])) h2
  exact ⟨m',by rw [fD,if_neg hv,if_neg hc];exact a1,a2⟩
theorem Yi5:∀ (S:List (Tm×Tm)) (m m':List Bd),fD S m=some m'→(∀ b∈m,b∈m')∧∀ f:Int→Tm,(∀ b∈m',f b.v=b.t)→∀ x∈S,x.1.ap f=x.2:=by
 intro S m
 induction S,m using fD.induct with
 | case1 m =>
  intro m' h
  rw [fD] at h
  cases h
  exact ⟨fun _ h=>h,fun f _ x hx=>by cases hx⟩
 | case2 x r m hv c hf he ih =>
  intro m' h
  rw [fD,if_pos hv,hf] at h
  simp only [if_pos he] at h
  obtain ⟨a1,a2⟩:=ih m' h
  refine ⟨a1,fun f hb y hy=>?_⟩
  rcases aR.1 hy with rfl | hy
  ·have e3:=gL hf
   simp only [beq_iff_eq] at e3
   rw [EB (by omega),← e3,hb c (a1 c (bJ hf)),he]
  ·exact a2 f hb y hy
 | case3 x r m hv c hf he =>
  intro m' h
  rw [fD,if_pos hv,hf] at h
  simp only [if_neg he] at h
  cases h
 | case4 x r m hv hf ih =>
  intro m' h
  rw [fD,if_pos hv,hf] at h
  simp only at h
  obtain ⟨a1,a2⟩:=ih m' h
  refine ⟨fun b hb=>a1 b (by simp [hb]),fun f hb y hy=>?_⟩
  rcases aR.1 hy with rfl | hy
  ·have:=hb ⟨-1 - y.1.head,y.2⟩ (a1 _ (by simp))
   rw [EB (by omega)];exact this
  ·exact a2 f hb y hy
 | case5 x r m hv hc =>
  intro m' h
  rw [fD,if_neg hv,if_pos hc] at h
  cases h
 | case6 x r m hv hc ih =>
  intro m' h
  rw [fD,if_neg hv,if_neg hc] at h
  obtain ⟨a1,a2⟩:=ih m' h
  refine ⟨a1,fun f hb y hy=>?_⟩
  rcases aR.1 hy with rfl | hy
  ·have e1:y.1.head=y.2.head:=jN fun hn=>hc (.inl hn)
   have e2:y.1.args.length=y.2.args.length:=jN fun hn=>hc (.inr hn)
   rw [EA (by omega),RM (Tm.ap f) _ _ e2 fun p hp=>a2 f hb p (gN _ (cU.2 hp))]
   exact J2 e1 rfl
  ·exact a2 f hb y (lE _ hy)
theorem Yrn {Q:Tm→Prop} (hQ:∀ t,Q t→∀ u∈t.args,Q u):∀ (S:List (Tm×Tm)) (m m':List Bd),fD S m=some m'→(∀ x∈S,x.1.good=true∧Q x.2)→(∀ b∈m,(0≤b.v∧b.v≤255)∧Q b.t)→∀ b∈m',(0≤b.v∧b.v≤255)∧Q b.t:=by
 intro S m
 induction S,m using fD.induct with
 | case1 m =>
  intro m' h _ h2
  rw [fD] at h
  cases h
  exact h2
 | case2 x r m hv c hf he ih =>
  intro m' h h1 h2
  rw [fD,if_pos hv,hf] at h
  simp only [if_pos he] at h
  exact ih m' h (fun y hy=>h1 y (by simp [hy])) h2
 | case3 x r m hv c hf he =>
  intro m' h
  rw [fD,if_pos hv,hf] at h
  simp only [if_neg he] at h
  cases h
 | case4 x r m hv hf ih =>
  intro m' h h1 h2
  rw [fD,if_pos hv,hf] at h
  simp only at h
  obtain ⟨g1,g2⟩:=h1 x (by simp)
  have gh:=zk g1
  exact ih m' h (fun y hy=>h1 y (by simp [hy])) fun b hb=>by
   rcases aW.1 hb with hb | hb
   ·exact h2 b hb
   ·rw [aM.1 hb];exact ⟨⟨hv,by simp only;omega⟩,g2⟩
 | case5 x r m hv hc =>
  intro m' h
  rw [fD,if_neg hv,if_pos hc] at h
  cases h
 | case6 x r m hv hc ih =>
  intro m' h h1 h2
  rw [fD,if_neg hv,if_neg hc] at h
  obtain ⟨g1,g2⟩:=h1 x (by simp)
  refine ih m' h (fun y hy=>?_) h2
  rcases aW.1 hy with hy | hy
  ·have hy:=cZ (cU.1 hy)
   exact ⟨qw g1 _ hy.1,hQ _ g2 _ hy.2⟩
  ·exact h1 y (by simp [hy])
mutual
theorem Tv {f:Int→Tm}:∀ (t u:Tm) (s:List Bd),t.ap f=u→(∀ b∈s,f b.v=b.t)→(kc t u s).2=true∧∀ b∈(kc t u s).1,f b.v=b.t
 | .mk h ts,u,s,he,hs=>by
  rw [kc]
  rw [Tm.ap] at he
  by_cases hn:h<0
  ·rw [if_pos hn] at he ⊢
   cases hf:s.find? (fun b=>b.v == -1 - h) with
   | some b =>
    have e1:=hs b (bJ hf)
    have e3:=gL hf
    simp only [beq_iff_eq] at e3
    simp only
    refine ⟨?_,hs⟩
    rw [decide_eq_true_eq,← e1,e3,he]
   | none =>
    simp only
    refine ⟨trivial,fun b hb=>?_⟩
    rcases aW.1 hb with hb | hb
    ·exact hs b hb
    ·rw [aM.1 hb];exact he
  ·rw [if_neg hn] at he ⊢
   subst he
   rw [if_neg (show ¬ (h≠(Tm.mk h (Tm.n7 f ts)).head∨ts.length≠(Tm.mk h (Tm.n7 f ts)).args.length) from by simp [Tm.head,Tm.args,Er])]
   exact RR ts _ s (by rw [← Er];rfl) hs
theorem RR {f:Int→Tm}:∀ (ts us:List Tm) (s:List Bd),ts.map (Tm.ap f)=us→(∀ b∈s,f b.v=b.t)→(h_ ts us s).2=true∧∀ b∈(h_ ts us s).1,f b.v=b.t
 | [],_,s,_,hs=>by rw [h_];exact ⟨rfl,hs⟩
 | t :: ts,[],s,he,_=>by simp at he
 | t :: ts,u :: us,s,he,hs=>by
  rw [aB] at he
  injection he with h1 h2
  obtain ⟨a1,a2⟩:=Tv t u s h1 hs
  rw [h_,if_pos a1]
  exact RR ts us _ h2 a2
end
mutual
theorem Ks:∀ (t u:Tm) (s:List Bd),(kc t u s).2=true→(∀ b∈s,b∈(kc t u s).1)∧∀ f:Int→Tm,(∀ b∈(kc t u s).1,f b.v=b.t)→t.ap f=u
 | .mk h ts,u,s,he=>by
  rw [kc] at he ⊢
  by_cases hn:h<0
  ·rw [if_pos hn] at he ⊢
   cases hf:s.find? (fun b=>b.v == -1 - h) with
   | some b =>
    rw [hf] at he
    simp only [decide_eq_true_eq] at he ⊢
    refine ⟨fun _ h=>h,fun f hb=>?_⟩
    have e3:=gL hf
    simp only [beq_iff_eq] at e3
    rw [Tm.ap,if_pos hn,← e3,hb b (bJ hf),he]
   | none =>
    simp only
    refine ⟨fun b hb=>by simp [hb],fun f hb=>?_⟩
    rw [Tm.ap,if_pos hn]
    exact hb ⟨-1 - h,u⟩ (by simp)
  ·rw [if_neg hn] at he ⊢
   by_cases hc:h≠u.head∨ts.length≠u.args.length
   ·rw [if_pos hc] at he;cases he
   ·rw [if_neg hc] at he ⊢
    have e1:h=u.head:=jN fun hn=>hc (.inl hn)
    have e2:ts.length=u.args.length:=jN fun hn=>hc (.inr hn)
    obtain ⟨a1,a2⟩:=Rp ts u.args s e2 he
    refine ⟨a1,fun f hb=>?_⟩
    rw [Tm.ap,if_neg hn,Er,a2 f hb]
    exact J2 e1 rfl
theorem Rp:∀ (ts us:List Tm) (s:List Bd),ts.length=us.length→(h_ ts us s).2=true→(∀ b∈s,b∈(h_ ts us s).1)∧∀ f:Int→Tm,(∀ b∈(h_ ts us s).1,f b.v=b.t)→ts.map (Tm.ap f)=us
 | [],[],s,_,_=>by rw [h_];exact ⟨fun _ h=>h,fun _ _=>rfl⟩
 | t :: ts,u :: us,s,hl,he=>by
  rw [h_] at he ⊢
  by_cases hg:(kc t u s).2=true
  ·rw [if_pos hg] at he ⊢
   obtain ⟨a1,a2⟩:=Ks t u s hg
   obtain ⟨b1,b2⟩:=Rp ts us _ (by simpa using hl) he
   refine ⟨fun b hb=>b1 b (a1 b hb),fun f hb=>?_⟩
   rw [aB,b2 f hb,a2 f fun b hx=>hb b (b1 b hx)]
  ·rw [if_neg hg] at he;cases he
end
mutual
theorem L5:∀ (t u:Tm) (s:List Bd),(s.map Bd.v).Nodup→((kc t u s).1.map Bd.v).Nodup
 | .mk h ts,u,s,hs=>by
  rw [kc]
  split
  ·split
   ·exact hs
   ·rename_i hf
    rw [cD,gO]
    refine ⟨hs,by simp,fun u hu w hw=>?_⟩
    simp only [aB,aP,aM] at hw
    subst hw
    obtain ⟨b,hb,rfl⟩:=bZ.1 hu
    intro e
    exact absurd (by simpa using e) (kn.1 hf b hb)
  ·split
   ·exact hs
   ·exact UO ts u.args s hs
theorem UO:∀ (ts us:List Tm) (s:List Bd),(s.map Bd.v).Nodup→((h_ ts us s).1.map Bd.v).Nodup
 | [],_,s,hs=>by rw [h_];exact hs
 | _ :: _,[],s,hs=>by rw [h_];exact hs
 | t :: ts,u :: us,s,hs=>by
  rw [h_]
  split
  ·exact UO ts us _ (L5 t u s hs)
  ·exact hs
end
theorem L8:∀ l:List Bd,(l.map Bd.v).Nodup→∀ b∈l,l.find? (fun c=>c.v==b.v)=some b
 | c :: l,h,b,hb=>by
  rw [aB,eY] at h
  rw [gK]
  rcases aR.1 hb with rfl | hb
  ·simp
  ·have ep:¬ c.v=b.v:=fun e=>h.1 (by rw [e];exact bZ.2 ⟨b,hb,rfl⟩)
   rw [show (c.v==b.v)=false from by simp [ep]]
   exact L8 l h.2 b hb
theorem Yjo {l:List Bd} (h:(l.map Bd.v).Nodup) (v:Int):l.reverse.find? (fun c=>c.v==v)=l.find? (fun c=>c.v==v):=by
 cases hf:l.find? (fun c=>c.v==v) with
 | some b =>
  have e3:=gL hf
  simp only [beq_iff_eq] at e3
  have:=L8 l.reverse (by rw [List.map_reverse];exact (List.reverse_perm _).nodup_iff.2 h) b (cU.2 (bJ hf))
  rwa [e3] at this
 | none =>
  rw [kn] at hf ⊢
  exact fun x hx=>hf x (cU.1 hx)
theorem Yq1 {l:List Bd} (h:(l.map Bd.v).Nodup) (v:Int):oh l.reverse v=oh l v:=by
 unfold oh;rw [Yjo h]
theorem LX {l:List Bd} (h:(l.map Bd.v).Nodup):∀ b∈l,oh l b.v=b.t:=fun b hb=>by
 unfold oh;rw [L8 l h b hb];rfl
theorem I0 {k:Int→Option Bd} (hk:∀ w b,k w=some b→b.v=w) (v:Int):∀ L:List Int,(L.filterMap k).find? (fun c=>c.v==v)=if v∈L then k v else none
 | []=>by simp
 | w :: L=>by
  rw [List.filterMap_cons]
  cases hw:k w with
  | none =>
   simp only
   rw [I0 hk v L]
   by_cases e:v=w
   ·subst e;rw [hw];simp
   ·simp [aR,e]
  | some b =>
   simp only
   rw [gK,I0 hk v L,hk w b hw]
   by_cases e:w=v
   ·subst e;simp [hw]
   ·rw [show (w==v)=false from by simp [e]]
    simp [aR,gA e]
theorem Qf {t:Tm} {v:Int} (hg:t.good=true) (h0 : 0≤v) (h:t.head = -1 - v):t = .mk (-1 - v) []:=by
 have:=(zk hg).2.2.2 (by omega)
 cases t;simp only [Tm.head,Tm.args] at h this;rw [h,this]
def kP (m:List Bd) (v:Int):Option Bd:=match m.find? (fun c=>c.v==v) with | some c=>if c.t.head = -1 - v then none else some ⟨v,c.t⟩ | none=>none
theorem Hm (m:List Bd) (w:Int) (b:Bd) (h:kP m w=some b):b.v=w:=by
 unfold kP at h
 split at h
 ·split at h
  ·cases h
  ·cases h;rfl
 ·cases h
theorem Lx (m:List Bd) (ks:List Int):jg m ks=ks.filterMap (kP m):=rfl
theorem Yf2 {m:List Bd} {ks:List Int} (Nt:∀ b∈m,b.v∈ks) (hv:∀ b∈m,0≤b.v∧b.t.good=true) (v:Int):oh (jg m ks) v=oh m v:=by
 rw [Lx]
 unfold oh
 rw [I0 (Hm m)]
 unfold kP
 cases hf:m.find? (fun c=>c.v==v) with
 | none=>simp
 | some c =>
  have hc:=bJ hf
  have e3:=gL hf
  simp only [beq_iff_eq] at e3
  rw [if_pos (by rw [← e3];exact Nt c hc)]
  simp only
  by_cases e:c.t.head = -1 - v
  ·rw [if_pos e]
   exact (Qf (hv c hc).2 (by rw [← e3];exact (hv c hc).1) e).symm
  ·rw [if_neg e];rfl
def kD (s:List Bd) (v:Int):Option Bd:=if (oh s v).head = -1 - v then none else some ⟨v,oh s v⟩
theorem Ol (s:List Bd) (w:Int) (b:Bd) (h:kD s w=some b):b.v=w:=by
 unfold kD at h
 split at h
 ·cases h
 ·cases h;rfl
theorem Ylm (s:List Bd):uL s=((List.range 256).map fun n:Nat=>(n:Int)).filterMap (kD s):=by
 unfold uL B9
 rw [List.filterMap_map];rfl
theorem TA {s:List Bd} (hg:∀ b∈s,b.t.good=true) {v:Int} (h0 : 0≤v) (h1:v≤255):oh (uL s) v=oh s v:=by
 rw [Ylm]
 have fE:v∈(List.range 256).map fun n:Nat=>(n:Int):=bZ.2 ⟨v.toNat,cA.2 (by omega),by omega⟩
 have e:oh (((List.range 256).map fun n:Nat=>(n:Int)).filterMap (kD s)) v=((kD s v).map Bd.t).getD (.mk (-1 - v) []):=by
  conv=>lhs;unfold oh
  rw [I0 (Ol s),if_pos fE]
 rw [e]
 unfold kD
 by_cases c:(oh s v).head = -1 - v
 ·rw [if_pos c]
  have vI:(oh s v).good=true:=Ysx (P:=fun t=>t.good=true) hg (by
   simp only [Tm.good,Tm.eH,aS,ot,bU,ct,decide_eq_false_iff_not,fb]
   refine ⟨⟨⟨.inr (by omega),by omega⟩,by omega⟩,by omega⟩)
  exact (Qf vI h0 c).symm
 ·rw [if_neg c];rfl
theorem Mm {m:List Bd} (hm:∀ b∈m,(0≤b.v∧b.v≤255)∧b.t.check=0):∀ (ks:List Int) (a:Int),ks.Pairwise (· < ·)→(∀ v∈ks,a<v)→jB a (jg m ks)=0
 | [],_,_,_=>rfl
 | w :: ks,a,hp,ha=>by
  rw [List.pairwise_cons] at hp
  rw [Lx,List.filterMap_cons,← Lx]
  cases hw:kP m w with
  | none=>exact Mm hm ks a hp.2 fun v hv=>ha v (by simp [hv])
  | some b =>
   simp only
   have hbv:=Hm m w b hw
   unfold kP at hw
   cases hf:m.find? (fun c=>c.v==w) with
   | none=>rw [hf] at hw;cases hw
   | some c =>
    rw [hf] at hw
    simp only at hw
    have e3:=gL hf
    simp only [beq_iff_eq] at e3
    have hc:=hm c (bJ hf)
    by_cases e:c.t.head = -1 - w
    ·rw [if_pos e] at hw;cases hw
    ·rw [if_neg e] at hw
     cases hw
     have:=ha w (by simp)
     rw [jB,if_neg (by
      simp only
      rintro (h | h | h | h)
      ·omega
      ·omega
      ·exact h hc.2
      ·exact e h)]
     exact Mm hm ks w hp.2 hp.1
theorem Ykd {l:List Int} (h:l.Nodup):(gx l).Pairwise (· < ·):=by
 have ht:∀ x y z:Int,decide (x≤y)=true→decide (y≤z)=true→decide (x≤z)=true:=fun x y z h1 h2=>by simp at *;omega
 have hc:∀ x y:Int,(decide (x≤y)||decide (y≤x))=true:=fun x y=>by simp;omega
 have h1:(gx l).Pairwise fun x y=>decide (x≤y)=true:=List.pairwise_mergeSort ht hc l
 have h2:(gx l).Nodup:=(jU l _).nodup_iff.2 h
 refine (h1.and h2).imp fun {x y} h=>?_
 have h3:=h.1
 have h4:=h.2
 simp only [decide_eq_true_eq] at h3
 omega
theorem Te {l:List Int} {v:Int}:v∈gx l↔v∈l:=(jU l _).mem_iff
theorem Vw {t:Tm} (h:t.check=0):tq [t]=true:=by simp [tq,h]
theorem Iz {t:Tm} (h:t.check=0):iM [t]=false:=by simp [iM,h]
theorem Zzg:∀ t:Tm,t.check=0→∀ u∈t.args,u.check=0:=fun t h u hu=>by
 obtain ⟨c1,c2,c3⟩:=p7 h
 have z1:=tA hu
 have z2:=oM t
 have z3:=Sm hu
 exact U_ (by omega) (by omega) (qw c3 u hu)
theorem Qy (l u:Tm):(wY [l] [u]).2=(kc l u []).2∧((kc l u []).2=true→(wY [l] [u]).1=(kc l u []).1):=by
 have h:h_ [l] [u] []=if (kc l u []).2=true then ((kc l u []).1,true) else ([],false):=by
  rw [h_];split
  ·rw [h_]
  ·rfl
 unfold wY
 rw [h]
 by_cases c:(kc l u []).2=true
 ·simp [c]
 ·simp [c]
theorem IV {l u:Tm} (hl:l.check=0) (hu:u.check=0) (fl:l.fit) (fu:u.fit) :
  (gV [l] [u]).2.2=0∧(gS [l] [u]).2.2=0∧(gV [l] [u]).2.1=(gS [l] [u]).2.1∧((gS [l] [u]).2.1=true→jB (-1) (gS [l] [u]).1=0∧l.pd (gV [l] [u]).1=u∧∀ r:Tm,r.good=true→within r l=true→r.sub (gS [l] [u]).1.reverse=r.pd (gV [l] [u]).1):=by
 obtain ⟨l1,_,l3⟩:=p7 hl
 obtain ⟨u1,_,u3⟩:=p7 hu
 have eD:gV [l] [u]=if (kc l u []).2=false then ([],false,0) else (uL (wY [l] [u]).1,true,0):=by
  unfold gV
  rw [Vw hl,Vw hu,if_neg (by simp),(Qy l u).1]
 have eP:gS [l] [u]=match fD [(l,u)] [] with | none=>([],false,0) | some m=>(jg m (gx (m.map Bd.v)),true,0):=by
  unfold gS
  rw [Iz hl,Iz hu,if_neg (by simp)];rfl
 cases hg:fD [(l,u)] [] with
 | none =>
  rw [hg] at eP
  have:(kc l u []).2=false:=by
   cases hd:(kc l u []).2 with
   | false=>rfl
   | true =>
    obtain ⟨_,h2⟩:=Ks l u [] hd
    have h3:=h2 _ (LX (L5 l u [] (by simp)))
    obtain ⟨m',h4,_⟩:=Uv (f:=oh (kc l u []).1) [(l,u)] [] (fun x hx=>by rw [aM.1 hx];exact h3) (fun b hb=>by cases hb)
    rw [hg] at h4;cases h4
  rw [if_pos this] at eD
  rw [eD,eP]
  exact ⟨rfl,rfl,rfl,fun h=>by cases h⟩
 | some m =>
  rw [hg] at eP
  simp only at eP
  have fT:y8 [(l,u)]:=fun x hx=>by rw [aM.1 hx];exact ⟨fl,fu,by simp only;omega⟩
  have pg:=(Qd _ _ _ hg fT (fun b hb=>by cases hb) (by simp)).2.1
  have A0:=Yrn (Q:=fun t=>t.check=0) Zzg _ _ _ hg (fun x hx=>by rw [aM.1 hx];exact ⟨l3,hu⟩) (fun b hb=>by cases hb)
  have hs:=(Yi5 _ _ _ hg).2 _ (LX pg) (l,u) (by simp)
  simp only at hs
  obtain ⟨d1,d2⟩:=Tv l u [] hs (fun b hb=>by cases hb)
  rw [if_neg (by rw [d1];simp),(Qy l u).2 d1] at eD
  have rP:=(Ks l u [] d1).2 _ (LX (L5 l u [] (by simp)))
  have yh:l.dj fun v=>oh m v=oh (kc l u []).1 v:=J0 l l3 (hs.trans rP.symm)
  have tE:∀ b∈(kc l u []).1,b.t.good=true:=UK (P:=fun t=>t.good=true) (fun t h=>qw h) l u [] u3 (fun b hb=>by cases hb)
  have hP:∀ v,oh (jg m (gx (m.map Bd.v))) v=oh m v:=Yf2 (fun b hb=>Te.2 (bZ.2 ⟨b,hb,rfl⟩)) fun b hb=>⟨(A0 b hb).1.1,(p7 (A0 b hb).2).2.2⟩
  have Gv:jB (-1) (jg m (gx (m.map Bd.v)))=0:=Mm A0 _ _ (Ykd pg) fun v hv=>by
   obtain ⟨b,hb,rfl⟩:=bZ.1 (Te.1 hv)
   have:=(A0 b hb).1
   omega
  have ND:=(Kc _ _ Gv).2
  have EN:=Yf6 l l3
  rw [eD,eP]
  refine ⟨rfl,rfl,rfl,fun _=>⟨Gv,?_,fun r hr hw=>?_⟩⟩
  ·rw [CH]
   refine (FM l ?_).trans rP
   rw [← zm] at EN ⊢
   exact fun v hv=>TA tE (EN v hv).1 (by have:=(EN v hv).2;omega)
  ·rw [Qi _ _ hr,CH]
   refine FM r ?_
   rw [← zm] at yh EN ⊢
   intro v hv
   have Oa:v∈l.vars:=by
    unfold within at hw
    exact of_decide_eq_true (bj.1 hw v hv)
   rw [Yq1 ND,hP,yh v Oa]
   exact (TA tE (EN v Oa).1 (by have:=(EN v Oa).2;omega)).symm
theorem Ic (g:List Sy) (t:Tm):nB g t=t.cE g:=by
 unfold nB Tm.cE lL
 by_cases h : 0≤t.head
 ·by_cases h2:t.head<(g.length:Int)
  ·have hk:t.head.toNat<g.length:=by omega
   simp [h,h2,hk,List.getD]
  ·have hk:¬ t.head.toNat<g.length:=by omega
   simp [h,h2,hk]
 ·simp [h]
theorem Zzt {g:List Sy} (hs:gw g=true) {t:Tm} (h:t.head=0):t.cE g=true:=by
 have h1:=Zzx hs
 have h2:=(Tg hs).1
 unfold isTrue at h1
 simp only [aC] at h1
 unfold Tm.cE lL
 rw [h]
 simp only [aC,decide_eq_true_eq]
 refine ⟨⟨qI _,by omega⟩,?_⟩
 have:g.getD (Int.toNat 0) Sy.uh=g.getD 0 Sy.uh:=rfl
 rw [this];exact h1.2.2.2
theorem Ta {g:List Sy} {x y:Tm} (hx:x.term g=0) (hy:y.term g=0):(oN x y).check g=0↔¬ ((x.cE g&&decide (y.head≠0))||(!x.cE g&&y.cE g))=true:=by
 unfold Li.check oN
 simp only
 rw [if_neg (fun h=>h hx),if_neg (fun h=>h hy)]
 split
 ·simp_all
 ·simp_all
theorem Ylo {g:List Sy} (hs:gw g=true) (l:Li):bf g [l]=l.check g:=by
 unfold bf
 rw [if_neg (by rw [hs];simp),if_neg (by simp),dF,dF]
 split
 ·rfl
 ·rename_i h;exact (Decidable.not_not.1 h).symm
theorem VG {g:List Sy} {x y:Tm} (hs:gw g=true) (h0:x.cE g=true→x.head≠0) (h:bf g [oN y x]=0):bf g [oN x y]=0:=by
 obtain ⟨hy,hx⟩:=J5 h
 rw [Ylo hs] at h ⊢
 rw [Ta hy hx] at h
 rw [Ta hx hy]
 intro hn
 apply h
 simp only [b9,aC,decide_eq_true_eq,bU] at hn ⊢
 rcases hn with ⟨a,b⟩ | ⟨a,b⟩
 ·cases hyt:y.cE g with
  | true=>exact .inl ⟨rfl,h0 a⟩
  | false=>exact .inr ⟨rfl,a⟩
 ·refine .inl ⟨b,fun e=>?_⟩
  rw [Zzt hs e] at a;cases a
theorem Yqj {g:List Sy} {c:List Li} {u:Un} {t:Tm} {e:Li} {n:Int} (hc:jm g c) (hl:gM g u.l) (hr:gM g u.r) (ht:gM g t) (hb:dP u=false) (he:gT e n=(u.l,u.r)) :
  (wN g e n t c).2=(eV g c u t).2∧((eV g c u t).2=true→(wN g e n t c).1=(eV g c u t).1):=by
 unfold dP at hb
 simp only [ct,decide_eq_false_iff_not,fh] at hb
 obtain ⟨qS,uZ⟩:=hb
 have hs:=Ki ht.1
 have gU:=(mW hl.1).1
 have EG:=(mW ht.1).1
 have zA:=(p7 (mW hr.1).1).2.2
 obtain ⟨m1,m2,m3,m4⟩:=IV gU EG hl.2 ht.2
 unfold wN eV nC
 rw [he]
 simp only
 rw [Ic,Ic]
 by_cases c1:u.l.cE g=t.cE g
 ·have n1:¬ (u.l.head=0∨u.l.cE g≠t.cE g∨within u.r u.l=false):=by
   rintro (h | h | h)
   ·exact qS h
   ·exact h c1
   ·rw [uZ] at h;cases h
  have n2:¬ (u.l.cE g≠t.cE g):=fun h=>h c1
  rw [if_neg n1,if_neg n2]
  have e1:mT u t=gS [u.l] [t]:=rfl
  rw [e1]
  by_cases c2:(gS [u.l] [t]).2.1=true
  ·obtain ⟨k1,k2,k3⟩:=m4 c2
   have n3:¬ ((gV [u.l] [t]).2.2≠0∨(gV [u.l] [t]).2.1=false):=by rw [m1,m3,c2];simp
   have n4:¬ ((gS [u.l] [t]).2.2≠0∨(gS [u.l] [t]).2.1=false):=by rw [m2,c2];simp
   rw [if_neg n3,if_neg n4,k2]
   have k4:=k3 u.r zA uZ
   generalize hy:u.r.pd (gV [u.l] [t]).1=y
   rw [hy] at k4
   have ha:aT u t=if y.check=0 then (y,0) else (fI,y.check):=by
    unfold aT qj
    rw [e1,k4,if_neg]
    rintro (h | h)
    ·exact h k1
    ·exact h (mW hr.1).1
   by_cases c3:y.term g=0
   ·have A1:=(mW c3).1
    rw [if_pos A1] at ha
    have EZ:gM g y:=by
     have:=(J8 hr (p8 ht)).1
     rw [ha] at this
     exact ⟨c3,this⟩
    have hk:kT g u t=(dU g t y,0):=by
     unfold kT
     rw [ha]
     have:dW g [t,y]=0:=by rw [dW,if_pos ht.1,dW,if_pos c3,dW]
     simp only [this,if_true]
    have hq:qT g u t c=oY g [oN t y] c:=by unfold qT oN;rw [ha]
    rw [ha,hk,hq]
    simp only
    rw [if_neg (fun h:(0:Int)≠0=>h rfl)]
    by_cases c4:bf g [oN t y]=0
    ·rw [if_neg (fun h=>h.1 c4)]
     have sA:jm g [oN t y]:=⟨c4,fun l hl=>by rw [aM.1 hl];exact ⟨ht.2,EZ.2⟩⟩
     rw [Yr9 sA hc]
     have fT:=LO ht EZ
     by_cases c5:dU g t y=1
     ·rw [c5] at fT ⊢
      rw [← fT]
      by_cases c6:rB g [oN t y] c = -1
      ·simp [c6]
      ·simp [c6]
     ·rw [show decide (dU g t y=1)=false from by simp [c5]] at fT
      rw [← fT]
      simp [c5]
    ·have c7:bf g [oN y t]≠0:=fun h=>c4 (VG hs (fun rQ h0=>by
      rw [← c1] at rQ
      have hh:¬ u.l.head<0:=by
       unfold Tm.cE at rQ
       simp only [aC,decide_eq_true_eq] at rQ
       omega
      rw [CH,EA hh] at k2
      rw [← k2] at h0
      exact qS h0) h)
     rw [if_pos ⟨c4,c7⟩]
     have:(oY g [oN t y] c).2≠0:=by unfold oY;rw [if_pos c4];exact c4
     by_cases c5:dU g t y=1
     ·simp [c5,this]
     ·simp [c5]
   ·have c4:bf g [oN t y]≠0:=fun h=>c3 (J5 h).2
    have c7:bf g [oN y t]≠0:=fun h=>c3 (J5 h).1
    rw [if_pos ⟨c4,c7⟩]
    by_cases A1:y.check=0
    ·rw [if_pos A1] at ha
     have hk:(kT g u t).2≠0:=by
      unfold kT
      rw [ha]
      rw [dW,if_pos ht.1,dW,if_neg c3];exact c3
     rw [ha]
     simp [hk]
    ·rw [if_neg A1] at ha
     rw [ha]
     simp [A1]
  ·have n3:(gV [u.l] [t]).2.2≠0∨(gV [u.l] [t]).2.1=false:=.inr (by rw [m3];simpa using c2)
   have n4:(gS [u.l] [t]).2.2≠0∨(gS [u.l] [t]).2.1=false:=.inr (by simpa using c2)
   rw [if_pos n3,if_pos n4]
   exact ⟨rfl,fun h=>by cases h⟩
 ·have n1:u.l.head=0∨u.l.cE g≠t.cE g∨within u.r u.l=false:=.inr (.inl c1)
  rw [if_pos n1,if_pos (show u.l.cE g≠t.cE g from c1)]
  exact ⟨rfl,fun h=>by cases h⟩
theorem Ypx {g:List Sy} {es:List (List Li)} {c:List Li} (hw:cF g (c :: es)=0):wM g es c=eF g (cQ es) c:=by
 unfold wM;exact if_neg (fun h=>h hw)
end Go.Proofs
namespace Go.Proofs
open Go Go.c8
attribute [local go_sem] Nat.reduceAdd Nat.reduceSub Nat.reduceMul Nat.reduceLeDiff Nat.reduceEqDiff Nat.reduceBEq Nat.reduceLT Nat.le_refl Int.natCast_zero Nat.sub_zero List.length_map Int.toNat_natCast Int.natCast_one Int.reduceEq Int.reduceLT Int.reduceLE Int.reduceNe Int.sub_zero Int.zero_add Int.toNat_one
theorem Yuc {g:List Sy} {c:List Li} (h:jm g c):A5 c∧c.length≤32:=by
 refine ⟨fun l hl=>?_,(xR h.1).2.1⟩
 obtain ⟨a1,a2⟩:=tX h hl
 have b1:=(p8 a1).2
 have b2:=(p8 a2).2
 omega
end Go.Proofs
namespace Go.Proofs
open Go Go.c8
theorem Vc {t:Tm} (h:t.good=true) (ha:t.args≠[]) : 0≤t.head:=by
 cases t with
 | mk hd ts =>
  simp only [Tm.good,Tm.args,Tm.head] at *
  cases ts with
  | nil=>exact absurd rfl ha
  | cons a ts=>simp at h;omega
theorem QA (g:List Sy) (t:Tm):t.gr g t=false:=by
 rw [E9,if_neg (fun h=>h rfl:¬ t.mf g≠t.mf g),if_neg (fun h=>h rfl:¬ t.head≠t.head),LI]
 repeat' split
 all_goals rfl
theorem Ys {g:List Sy} {c:List Li} {u:Un} {t:Tm} (hr:gM g u.r) (ht:gM g t) (h:(eV g c u t).2=true):gM g (eV g c u t).1∧t.gr g (eV g c u t).1=true:=by
 have hs:=LB (c:=c) (u:=u) hr (p8 ht)
 unfold eV nC at h hs ⊢
 split at h
 ·cases h
 split at h
 ·cases h
 split at h
 ·cases h
 split at h
 ·cases h
 rename_i c1 c2 c3 c4
 rw [if_neg c1,if_neg c2,if_neg c3,if_neg c4] at hs ⊢
 simp only at hs ⊢
 have k1:(kT g u t).2=0:=by
  by_cases h:(kT g u t).2=0
  ·exact h
  ·exact absurd (.inl h) c4
 have k2:(kT g u t).1=1:=by
  by_cases h:(kT g u t).1=1
  ·exact h
  ·exact absurd (.inr h) c4
 have k3:dW g [t,(aT u t).1]=0:=k1
 have k4:dU g t (aT u t).1=1:=by
  unfold kT at k2
  simp only [k3,if_true] at k2
  exact k2
 have k5:(aT u t).1.term g=0:=by
  rw [dW,if_pos ht.1,dW] at k3
  split at k3
  ·assumption
  ·exact k3
 have sA:gM g (aT u t).1:=⟨k5,hs.1⟩
 refine ⟨sA,?_⟩
 rw [← LO ht sA,k4];rfl
theorem Lk {P:List Li→Prop} {S:List Li→List Li×Int×Bool×Int} (hP:∀ c,P c→(S c).2.2.2=0→(S c).2.2.1=true→P (S c).1):∀ (n:Nat) (c:List Li) (u:List Int),P c→(fg S n c u).2.2=0 →
  P (fg S n c u).1∧(S (fg S n c u).1).2.2.2=0∧(S (fg S n c u).1).2.2.1=false∧u.length≤(fg S n c u).2.1.length∧((S c).2.2.1=true→u.length<(fg S n c u).2.1.length)∧((S c).2.2.1=false→(fg S n c u).2.1=u)
 | 0,c,u,h,h0=>by rw [fg] at h0;cases h0
 | n+1,c,u,h,h0=>by
  rw [fg] at h0 ⊢
  by_cases h1:(S c).2.2.2=0
  ·rw [if_neg (fun k=>k h1)] at h0 ⊢
   by_cases h2:(S c).2.2.1=false
   ·rw [if_pos h2] at h0 ⊢
    exact ⟨h,h1,h2,ah _,fun k=>(by rw [h2] at k;cases k),fun _=>rfl⟩
   ·rw [if_neg h2] at h0 ⊢
    have uY:(S c).2.2.1=true:=by simpa using h2
    by_cases h3 : 200<u.length+1
    ·rw [if_pos h3] at h0;cases h0
    ·rw [if_neg h3] at h0 ⊢
     obtain ⟨a1,a2,a3,a4,_⟩:=Lk hP n _ _ (hP c h h1 uY) h0
     rw [ay] at a4
     simp only [ax,aS] at a4
     exact ⟨a1,a2,a3,by omega,fun _=>by omega,fun k=>absurd k h2⟩
  ·rw [if_pos h1] at h0;exact absurd h0 h1
theorem LF {g:List Sy} {es:List (List Li)} {c:List Li} (h:qC es c) (h0:(cB g es c).2.2=0):cF g (c :: es)=0∧jm g (cB g es c).1∧cB g es (cB g es c).1=((cB g es c).1,[],0)∧decide (0<(cB g es c).2.1.length)=(wM g es c).2.2.1:=by
 have hw:cF g (c :: es)=0:=by
  by_cases hw:cF g (c :: es)=0
  ·exact hw
  ·unfold cB gk at h0
   rw [if_pos hw] at h0
   exact absurd h0 hw
 have hi:=F5 h hw
 have e1:cB g es c=fg (eF g (cQ es)) 201 c []:=by unfold cB gk;exact if_neg (fun k=>k hw)
 have e2:wM g es c=eF g (cQ es) c:=Ypx hw
 rw [e1] at h0
 obtain ⟨a1,a2,a3,a4,a5,a6⟩:=Lk (P:=jm g) (fun d hd k0 _=>Uk hi.2.1 hd k0) 201 c [] hi.1 h0
 rw [e1,e2]
 generalize hx:(fg (eF g (cQ es)) 201 c []).1=x at *
 refine ⟨hw,a1,?_,?_⟩
 ·have r8:cF g (x :: es)=0:=by
   rw [cF,if_neg (fun k=>k a1.1)]
   rw [cF] at hw
   split at hw
   ·rename_i h3;exact absurd hw h3
   ·exact hw
  have e3:cB g es x=fg (eF g (cQ es)) 201 x []:=by unfold cB gk;exact if_neg (fun k=>k r8)
  rw [e3,fg,if_neg (fun k=>k a2),if_pos a3]
 ·cases hb:(eF g (cQ es) c).2.2.1 with
  | true=>rw [decide_eq_true_eq];exact Nat.lt_of_le_of_lt (av _) (a5 hb)
  | false=>rw [a6 hb];rfl
mutual
theorem FR {p:Int→Prop} (s:Int→Tm):∀ t:Tm,t.good=true→((t.ap s).dj p↔t.dj fun v=>(s v).dj p)
 | .mk h ts,hg=>by
  have ha:=qw hg
  have hh:=(zk hg).2.2.2
  simp only [Tm.head,Tm.args] at ha hh
  rw [Tm.ap,Tm.dj]
  by_cases hn:h<0
  ·rw [if_pos hn,hh hn,Tm.fA];simp [hn]
  ·rw [if_neg hn,Tm.dj,Vt s ts ha];simp [hn]
theorem Vt {p:Int→Prop} (s:Int→Tm):∀ ts:List Tm,(∀ t∈ts,t.good=true)→(Tm.fA p (Tm.n7 s ts)↔Tm.fA (fun v=>(s v).dj p) ts)
 | [],_=>Iff.rfl
 | t :: ts,h=>by rw [Tm.n7,Tm.fA,Tm.fA,FR s t (h t (by simp)),Vt s ts fun x hx=>h x (by simp [hx])]
end
mutual
theorem LP {p q:Int→Prop} (h:∀ v,p v→q v):∀ t:Tm,t.dj p→t.dj q
 | .mk hd ts,hp=>by rw [Tm.dj] at hp ⊢;exact ⟨fun k=>h _ (hp.1 k),TI h ts hp.2⟩
theorem TI {p q:Int→Prop} (h:∀ v,p v→q v):∀ ts:List Tm,Tm.fA p ts→Tm.fA q ts
 | [],_=>trivial
 | t :: ts,hp=>by rw [Tm.fA] at hp ⊢;exact ⟨LP h t hp.1,TI h ts hp.2⟩
end
theorem Fw {p:Int→Prop}:∀ ts:List Tm,Tm.fA p ts↔∀ t∈ts,t.dj p
 | []=>by simp [Tm.fA]
 | t :: ts=>by rw [Tm.fA,Fw ts];simp
theorem VF {q:Int→Prop}:∀ (p:List Int) (t u:Tm),t.dj q→u.dj q→(t.gX p u).dj q
 | [],t,u,_,hu=>by rw [Tm.gX];exact hu
 | n :: p,t,u,ht,hu=>by
  rw [Tm.gX]
  cases t with
  | mk hd ts =>
   rw [Tm.dj] at ht ⊢
   simp only [Tm.args,Tm.head] at *
   refine ⟨ht.1,?_⟩
   rw [Fw] at ht ⊢
   intro x hx
   rcases nK hx with hx | rfl
   ·exact ht.2 x hx
   ·refine VF p _ u ?_ hu
    by_cases h2:n.toNat<ts.length
    ·rw [show ts.getD n.toNat fI=ts[n.toNat] by simp [List.getD,h2]];exact ht.2 _ (aE h2)
    ·rw [show ts.getD n.toNat fI=fI by simp [List.getD,h2]]
     exact ⟨fun h=>by omega,trivial⟩
theorem Vo {q:Int→Prop}:∀ (p:List Int) (t v:Tm),t.dj q→t.mo p=some v→v.dj q
 | [],t,v,h,e=>by rw [Tm.mo] at e;cases e;exact h
 | n :: p,t,v,h,e=>by
  rw [Tm.mo] at e
  split at e
  ·cases e
  split at e
  ·rename_i h1 h2
   refine Vo p _ v ?_ e
   cases t with
   | mk hd ts=>rw [Tm.dj,Fw] at h;exact h.2 _ (aE h2)
  ·cases e
theorem Vb {g:List Sy} {c:List Li} {u:Un} {t:Tm} (hl:gM g u.l) (hr:gM g u.r) (ht:gM g t) (hb:dP u=false) (h:(eV g c u t).2=true) :
  ∃ s:Int→Tm,u.l.ap s=t∧(eV g c u t).1=u.r.ap s∧(u.l.head<0→t.cE g=false):=by
 unfold dP at hb
 simp only [ct,decide_eq_false_iff_not,fh] at hb
 obtain ⟨qS,uZ⟩:=hb
 have gU:=(mW hl.1).1
 have EG:=(mW ht.1).1
 have zA:=(p7 (mW hr.1).1).2.2
 obtain ⟨m1,m2,m3,m4⟩:=IV gU EG hl.2 ht.2
 unfold eV nC at h ⊢
 split at h
 ·cases h
 split at h
 ·cases h
 split at h
 ·cases h
 split at h
 ·cases h
 rename_i c1 c2 c3 c4
 rw [if_neg c1,if_neg c2,if_neg c3,if_neg c4]
 simp only
 have e1:mT u t=gS [u.l] [t]:=rfl
 have c5:(gS [u.l] [t]).2.1=true:=by
  rw [e1] at c2
  cases hc:(gS [u.l] [t]).2.1 with
  | true=>rfl
  | false=>exact absurd (.inr hc) c2
 obtain ⟨k1,k2,k3⟩:=m4 c5
 have k4:=k3 u.r zA uZ
 rw [CH] at k2 k4
 refine ⟨_,k2,?_,fun hn=>?_⟩
 ·generalize hy:u.r.ap (oh (gV [u.l] [t]).1)=y at *
  have ha:aT u t=if y.check=0 then (y,0) else (fI,y.check):=by
   unfold aT qj
   rw [e1,k4,if_neg]
   rintro (h | h)
   ·exact h k1
   ·exact h (mW hr.1).1
  by_cases A1:y.check=0
  ·rw [ha,if_pos A1]
  ·rw [ha,if_neg A1] at c3
   exact absurd A1 c3
 ·rw [Ic,Ic] at c1
  rw [← Decidable.not_not.1 c1]
  have:decide (0≤u.l.head)=false:=by simp;omega
  unfold Tm.cE
  rw [this];rfl
theorem Zzs {g:List Sy} {c:List Li} {u:Un} {t:Tm} (hl:gM g u.l) (hr:gM g u.r) (ht:gM g t) (hb:dP u=false) (h:(eV g c u t).2=true) {p:Int→Prop} (hp:t.dj p):(eV g c u t).1.dj p:=by
 obtain ⟨s,h1,h2,_⟩:=Vb hl hr ht hb h
 have kZ:=(p7 (mW hl.1).1).2.2
 have zA:=(p7 (mW hr.1).1).2.2
 rw [h2,FR s _ zA]
 rw [← h1,FR s _ kZ] at hp
 have DE:within u.r u.l=true:=by
  unfold dP at hb
  simp only [ct,decide_eq_false_iff_not,fh] at hb
  exact hb.2
 refine (zm _).1 fun v hv=>(zm _).2 hp v ?_
 unfold within at DE
 exact of_decide_eq_true (bj.1 DE v hv)
def sQ (p:Int→Prop) (c:List Li):Prop:=∀ l∈c,l.l.dj p∧l.r.dj p
def vr (v:Int):Tm:=.mk (-1 - v) []
def Tm.rn (r:Int→Int) (t:Tm):Tm:=t.ap fun v=>vr (r v)
structure fp (r:Int→Int) (p:Int→Prop):Prop where
 inj:∀ v w,p v→p w→r v=r w→v=w
 pos:∀ v,p v→0≤r v∧r v≤255
 non:∀ v,p v→0≤v
theorem Ao {r:Int→Int} {t:Tm} (h:t.head<0):t.rn r=vr (r (-1 - t.head)):=EB h
theorem zp {r:Int→Int} {t:Tm} (h:¬ t.head<0):t.rn r = .mk t.head (t.args.map (Tm.rn r)):=EA h
theorem uV {r:Int→Int} {t:Tm} (h:¬ t.head<0):(t.rn r).head=t.head∧(t.rn r).args=t.args.map (Tm.rn r):=by rw [zp h];exact ⟨rfl,rfl⟩
theorem Bk {t:Tm} (hg:t.good=true) (h:t.head<0):t.args=[]:=by
 have:=(zk hg).2.2.2
 exact this h
theorem Co {p:Int→Prop} {t:Tm} (h:t.dj p) (hn:t.head<0):p (-1 - t.head):=by
 cases t;rw [Tm.dj] at h;exact h.1 hn
theorem zY {p:Int→Prop} {t:Tm} (h:t.dj p):∀ u∈t.args,u.dj p:=by
 cases t;rw [Tm.dj,Fw] at h;exact h.2
section
variable {r:Int→Int} {p:Int→Prop}
theorem Ck (hr:fp r p) {t:Tm} (hv:t.dj p):(t.rn r).head<0↔t.head<0:=by
 by_cases h:t.head<0
 ·rw [Ao h]
  have:=(hr.pos _ (Co hv h)).1
  have e:(vr (r (-1 - t.head))).head = -1 - r (-1 - t.head):=rfl
  rw [e]
  constructor
  ·intro _;exact h
  ·intro _;omega
 ·rw [(uV h).1]
mutual
theorem Ez (hr:fp r p):∀ (t u:Tm),t.good=true→u.good=true→t.dj p→u.dj p→t.rn r=u.rn r→t=u
 | .mk h ts, .mk k us,gt,gu,vt,vu,e=>by
  by_cases h1:h<0
  ·by_cases h2:k<0
   ·rw [Ao (t:=.mk h ts) h1,Ao (t:=.mk k us) h2] at e
    injection e with e _
    have:=hr.inj _ _ (Co vt h1) (Co vu h2) (by simp only [Tm.head] at e ⊢;omega)
    have a1:=Bk gt h1
    have a2:=Bk gu h2
    simp only [Tm.args,Tm.head] at a1 a2 this
    rw [a1,a2,show h=k by omega]
   ·have:=congrArg Tm.head e
    rw [(uV (t:=.mk k us) h2).1] at this
    have h3:=(Ck hr vt).2 h1
    rw [this] at h3
    exact absurd h3 h2
  ·by_cases h2:k<0
   ·have:=congrArg Tm.head e
    rw [(uV (t:=.mk h ts) h1).1] at this
    have h3:=(Ck hr vu).2 h2
    rw [← this] at h3
    exact absurd h3 h1
   ·rw [zp (t:=.mk h ts) h1,zp (t:=.mk k us) h2] at e
    injection e with e1 e2
    simp only [Tm.head,Tm.args] at e1 e2
    have ga:=qw gt
    have gb:=qw gu
    have va:=zY vt
    have vb:=zY vu
    simp only [Tm.args] at ga gb va vb
    rw [e1,OH hr ts us ga gb va vb e2]
theorem OH (hr:fp r p):∀ (ts us:List Tm),(∀ t∈ts,t.good=true)→(∀ t∈us,t.good=true)→(∀ t∈ts,t.dj p)→(∀ t∈us,t.dj p)→ts.map (Tm.rn r)=us.map (Tm.rn r)→ts=us
 | [],[],_,_,_,_,_=>rfl
 | [],_ :: _,_,_,_,_,e=>by cases e
 | _ :: _,[],_,_,_,_,e=>by cases e
 | t :: ts,u :: us,g1,g2,v1,v2,e=>by
  rw [aB,aB] at e
  injection e with e1 e2
  rw [Ez hr t u (g1 t (by simp)) (g2 u (by simp)) (v1 t (by simp)) (v2 u (by simp)) e1,OH hr ts us (fun x hx=>g1 x (by simp [hx])) (fun x hx=>g2 x (by simp [hx])) (fun x hx=>v1 x (by simp [hx])) (fun x hx=>v2 x (by simp [hx])) e2]
end
theorem FG (hr:fp r p) (g:List Sy):∀ t:Tm,t.dj p→(t.rn r).cE g=t.cE g:=fun t hv=>by
 by_cases h1:t.head<0
 ·have h2:=(Ck hr hv).2 h1
  have e1:decide (0≤(t.rn r).head)=false:=by simp;omega
  have e2:decide (0≤t.head)=false:=by simp;omega
  unfold Tm.cE
  rw [e1,e2];rfl
 ·unfold Tm.cE
  rw [(uV h1).1]
mutual
theorem Bs (hr:fp r p) (g:List Sy):∀ t:Tm,t.good=true→t.dj p→(t.rn r).size=t.size∧(t.rn r).depth=t.depth∧(t.rn r).good=true∧(t.rn r).known g=t.known g∧(t.rn r).jD g=t.jD g∧(t.rn r).mf g=t.mf g∧(t.rn r).fit
 | .mk h ts,hg,hv=>by
  by_cases h1:h<0
  ·rw [Ao (t:=.mk h ts) h1]
   have a1:=Bk hg h1
   simp only [Tm.args,Tm.head] at a1
   subst a1
   have hp:=hr.pos _ (Co hv h1)
   simp only [Tm.head] at hp ⊢
   have h2 : -1 - r (-1 - h)<0:=by omega
   refine ⟨rfl,rfl,?_,?_,rfl,?_,?_⟩
   ·simp only [vr,Tm.good,Tm.eH,aS,ot,bU,ct,decide_eq_false_iff_not,fb]
    exact ⟨⟨⟨.inr (by omega),by omega⟩,by omega⟩,by omega⟩
   ·simp only [vr,Tm.known,decide_eq_true h2,decide_eq_true h1,fU]
   ·simp only [vr,Tm.mf];rw [if_pos h2,if_pos h1]
   ·exact ⟨by unfold ov;omega,trivial⟩
  ·have yp:=qw hg
   have xH:=zY hv
   simp only [Tm.args] at yp xH
   obtain ⟨b1,b2,b3,b4,b5,b6,b7⟩:=TU hr g ts yp xH
   have hh:=zk hg
   rw [zp (t:=.mk h ts) h1]
   simp only [Tm.head,Tm.args] at hh ⊢
   refine ⟨?_,?_,?_,?_,?_,?_,?_⟩
   ·rw [Tm.size,Tm.size,b1]
   ·rw [Tm.depth,Tm.depth,b2]
   ·rw [Tm.good] at hg ⊢
    rw [ak,b3]
    simp only [aC] at hg ⊢
    exact ⟨hg.1,trivial⟩
   ·rw [Tm.known,Tm.known,ak,b4]
   ·rw [Tm.jD,Tm.jD,b5]
   ·rw [Tm.mf,Tm.mf,if_neg h1,if_neg h1,b6]
   ·refine ⟨?_,b7⟩
    have:=hh
    unfold ov;omega
theorem TU (hr:fp r p) (g:List Sy):∀ ts:List Tm,(∀ t∈ts,t.good=true)→(∀ t∈ts,t.dj p)→Tm.bF (ts.map (Tm.rn r))=Tm.bF ts∧Tm.iH (ts.map (Tm.rn r))=Tm.iH ts∧Tm.eH (ts.map (Tm.rn r))=true∧Tm.gW g (ts.map (Tm.rn r))=Tm.gW g ts∧Tm.jE g (ts.map (Tm.rn r))=Tm.jE g ts∧(∀ n,Tm.pZ g (ts.map (Tm.rn r)) n=Tm.pZ g ts n)∧Tm.fits (ts.map (Tm.rn r))
 | [],_,_=>⟨rfl,rfl,rfl,rfl,rfl,fun _=>rfl,trivial⟩
 | t :: ts,hg,hv=>by
  obtain ⟨a1,a2,a3,a4,a5,a6,a7⟩:=Bs hr g t (hg t (by simp)) (hv t (by simp))
  obtain ⟨b1,b2,b3,b4,b5,b6,b7⟩:=TU hr g ts (fun x hx=>hg x (by simp [hx])) (fun x hx=>hv x (by simp [hx]))
  have rQ:=FG hr g t (hv t (by simp))
  rw [aB]
  refine ⟨?_,?_,?_,?_,?_,fun n=>?_,a7,b7⟩
  ·rw [Tm.bF,Tm.bF,a1,b1]
  ·rw [Tm.iH,Tm.iH,a2,b2]
  ·rw [Tm.eH,a3,b3];rfl
  ·rw [Tm.gW,Tm.gW,a4,b4]
  ·rw [Tm.jE,Tm.jE,a5,b5,rQ]
  ·rw [Tm.pZ,Tm.pZ,a6,b6]
end
mutual
theorem Fa (hr:fp r p) {v:Int} (hp:p v):∀ t:Tm,t.good=true→t.dj p→(t.rn r).cv (r v)=t.cv v
 | .mk h ts,hg,hv=>by
  by_cases h1:h<0
  ·rw [Ao (t:=.mk h ts) h1]
   have a1:=Bk hg h1
   simp only [Tm.args] at a1
   subst a1
   have hw:=Co hv h1
   simp only [Tm.head] at hw ⊢
   simp only [vr,Tm.cv,Tm.sT]
   by_cases e : -1 - h=v
   ·rw [if_pos (by rw [e]),if_pos (by omega)]
   ·rw [if_neg (fun k=>e (hr.inj _ _ hw hp (by omega))),if_neg (by omega)]
  ·have yp:=qw hg
   have xH:=zY hv
   simp only [Tm.args] at yp xH
   rw [zp (t:=.mk h ts) h1]
   have h0:=(hr.pos v hp).1
   have h2:=hr.non v hp
   show (if h = -1 - r v then 1 else 0)+Tm.sT (r v) (ts.map (Tm.rn r))=(if h = -1 - v then 1 else 0)+Tm.sT v ts
   rw [Qx hr hp ts yp xH,if_neg (by omega),if_neg (by omega)]
theorem Qx (hr:fp r p) {v:Int} (hp:p v):∀ ts:List Tm,(∀ t∈ts,t.good=true)→(∀ t∈ts,t.dj p)→Tm.sT (r v) (ts.map (Tm.rn r))=Tm.sT v ts
 | [],_,_=>rfl
 | t :: ts,hg,hv=>by
  rw [aB,Tm.sT,Tm.sT,Fa hr hp t (hg t (by simp)) (hv t (by simp)),Qx hr hp ts (fun x hx=>hg x (by simp [hx])) (fun x hx=>hv x (by simp [hx]))]
end
mutual
theorem Qj {w:Int} (hw:∀ v,p v→r v≠w) (h0 : 0≤w):∀ t:Tm,t.dj p→(t.rn r).cv w=0
 | .mk h ts,hv=>by
  by_cases h1:h<0
  ·rw [Ao (t:=.mk h ts) h1]
   have:=hw _ (Co hv h1)
   simp only [Tm.head] at this ⊢
   simp only [vr,Tm.cv,Tm.sT]
   rw [if_neg (by omega)]
  ·have xH:=zY hv
   simp only [Tm.args] at xH
   rw [zp (t:=.mk h ts) h1]
   show (if h = -1 - w then 1 else 0)+Tm.sT w (ts.map (Tm.rn r))=0
   rw [Ph hw h0 ts xH,if_neg (by omega)]
theorem Ph {w:Int} (hw:∀ v,p v→r v≠w) (h0 : 0≤w):∀ ts:List Tm,(∀ t∈ts,t.dj p)→Tm.sT w (ts.map (Tm.rn r))=0
 | [],_=>rfl
 | t :: ts,hv=>by
  rw [aB,Tm.sT,Qj hw h0 t (hv t (by simp)),Ph hw h0 ts fun x hx=>hv x (by simp [hx])]
end
theorem Yl4 (hr:fp r p) {t u:Tm} (gt:t.good=true) (gu:u.good=true) (vt:t.dj p) (vu:u.dj p):fK (t.rn r) (u.rn r)=fK t u:=by
 rw [dD,Fl,Fl]
 constructor
 ·intro h v hv
  by_cases hp:p v
  ·have:=h (r v) (hr.pos v hp).1
   rw [Fa hr hp t gt vt,Fa hr hp u gu vu] at this
   exact this
  ·rw [Mg hv u (LP (fun w hw=>fun e=>hp (by rw [← e];exact hw)) u vu)]
   exact av _
 ·intro h w hw
  by_cases hx:∃ v,p v∧r v=w
  ·obtain ⟨v,hp,rfl⟩:=hx
   rw [Fa hr hp t gt vt,Fa hr hp u gu vu]
   exact h v (hr.non v hp)
  ·rw [Qj (fun v hp e=>hx ⟨v,hp,e⟩) hw u vu]
   exact av _
mutual
theorem J7 (hr:fp r p) (g:List Sy):∀ t u:Tm,t.good=true→u.good=true→t.dj p→u.dj p→(t.rn r).gr g (u.rn r)=t.gr g u
 | .mk h ts,u,gt,gu,vt,vu=>by
  have s1:=(Bs hr g (.mk h ts) gt vt).2.2.2.2.2.1
  have s2:=(Bs hr g u gu vu).2.2.2.2.2.1
  have n1:=Ck hr vt
  have n2:=Ck hr vu
  rw [E9,E9,Yl4 hr gt gu vt vu,s1,s2]
  by_cases c1:fK (.mk h ts) u=false
  ·rw [if_pos c1,if_pos c1]
  ·rw [if_neg c1,if_neg c1]
   by_cases c2:(Tm.mk h ts).mf g≠u.mf g
   ·rw [if_pos c2,if_pos c2]
   ·rw [if_neg c2,if_neg c2]
    by_cases c3:(Tm.mk h ts).head<0∨u.head<0
    ·rw [if_pos c3,if_pos (by rw [n1,n2];exact c3)]
    ·rw [if_neg c3,if_neg (by rw [n1,n2];exact c3)]
     have c4:¬ (Tm.mk h ts).head<0:=fun k=>c3 (.inl k)
     have c5:¬ u.head<0:=fun k=>c3 (.inr k)
     rw [(uV c4).1,(uV c5).1,(uV c4).2,(uV c5).2]
     by_cases c6:(Tm.mk h ts).head≠u.head
     ·rw [if_pos c6,if_pos c6]
     ·rw [if_neg c6,if_neg c6]
      exact P9 hr g ts u.args (qw gt) (qw gu) (zY vt) (zY vu)
theorem P9 (hr:fp r p) (g:List Sy):∀ ts us:List Tm,(∀ t∈ts,t.good=true)→(∀ t∈us,t.good=true)→(∀ t∈ts,t.dj p)→(∀ t∈us,t.dj p)→Tm.o_ g (ts.map (Tm.rn r)) (us.map (Tm.rn r))=Tm.o_ g ts us
 | [],_,_,_,_,_=>by rw [aP,Tm.o_,Tm.o_]
 | _ :: _,[],_,_,_,_=>by rw [aB,aP,Tm.o_,Tm.o_]
 | t :: ts,u :: us,g1,g2,v1,v2=>by
  have a1:=g1 t (by simp)
  have a2:=g2 u (by simp)
  have b1:=v1 t (by simp)
  have b2:=v2 u (by simp)
  rw [aB,aB,Tm.o_,Tm.o_,J7 hr g t u a1 a2 b1 b2,P9 hr g ts us (fun x hx=>g1 x (by simp [hx])) (fun x hx=>g2 x (by simp [hx])) (fun x hx=>v1 x (by simp [hx])) (fun x hx=>v2 x (by simp [hx]))]
  by_cases e:t=u
  ·rw [if_pos e,if_pos (by rw [e])]
  ·rw [if_neg e,if_neg (fun k=>e (Ez hr t u a1 a2 b1 b2 k))]
end
end
theorem ZN {l u:Tm} (hl:l.check=0) (hu:u.check=0) (fl:l.fit) (fu:u.fit):(gS [l] [u]).2.1=true↔∃ s:Int→Tm,l.ap s=u:=by
 obtain ⟨_,_,_,m4⟩:=IV hl hu fl fu
 constructor
 ·intro h
  have:=(m4 h).2.1
  rw [CH] at this
  exact ⟨_,this⟩
 ·rintro ⟨s,h⟩
  obtain ⟨m',h4,_⟩:=Uv (f:=s) [(l,u)] [] (fun x hx=>by rw [aM.1 hx];exact h) (fun b hb=>by cases hb)
  unfold gS
  rw [Iz hl,Iz hu,if_neg (by simp)]
  have e:(List.zip [l] [u]).reverse=[(l,u)]:=rfl
  rw [e,h4]
theorem QF {s k:Int→Tm} {l r:Tm} (hl:l.good=true) (hw:within r l=true) (h:l.ap s=l.ap k):r.ap s=r.ap k:=by
 have h1:=J0 l hl h
 refine FM r ?_
 rw [← zm] at h1 ⊢
 intro v hv
 unfold within at hw
 exact h1 v (of_decide_eq_true (bj.1 hw v hv))
def t_ (g:List Sy) (c:List Li) (t y:Tm):Prop:=bf g [oN t y]=0∧t.gr g y=true∧rB g [oN t y] c = -1
theorem H4 {g:List Sy} {c:List Li} {u:Un} {t:Tm} (hc:jm g c) (hl:gM g u.l) (hr:gM g u.r) (ht:gM g t) (hb:dP u=false) (s:Int→Tm) :
  (u.l.ap s=t∧u.l.cE g=t.cE g∧t_ g c t (u.r.ap s))↔(u.l.ap s=t∧eV g c u t=(u.r.ap s,true)):=by
 have xE:=hb
 unfold dP at hb
 simp only [ct,decide_eq_false_iff_not,fh] at hb
 obtain ⟨qS,uZ⟩:=hb
 have gU:=(mW hl.1).1
 have EG:=(mW ht.1).1
 have kZ:=(p7 gU).2.2
 have hs:=Ki ht.1
 obtain ⟨m1,m2,m3,m4⟩:=IV gU EG hl.2 ht.2
 obtain ⟨e1,e2⟩:=Yqj (e:=⟨false,u.l,u.r⟩) (n:=0) hc hl hr ht xE rfl
 have hD:wN g ⟨false,u.l,u.r⟩ 0 t c=if u.l.head=0∨u.l.cE g≠t.cE g∨within u.r u.l=false then (t,false) else
   if (gV [u.l] [t]).2.2≠0∨(gV [u.l] [t]).2.1=false then (t,false) else
   if bf g [oN (u.l.pd (gV [u.l] [t]).1) (u.r.pd (gV [u.l] [t]).1)]≠0∧bf g [oN (u.r.pd (gV [u.l] [t]).1) (u.l.pd (gV [u.l] [t]).1)]≠0 then (t,false) else
   if (u.l.pd (gV [u.l] [t]).1).gr g (u.r.pd (gV [u.l] [t]).1)=false∨rB g [oN (u.l.pd (gV [u.l] [t]).1) (u.r.pd (gV [u.l] [t]).1)] c≠-1 then (t,false) else (u.r.pd (gV [u.l] [t]).1,true):=rfl
 rw [hD] at e1 e2
 refine and_congr_right fun yj=>?_
 have hM:=(ZN gU EG hl.2 ht.2).2 ⟨s,yj⟩
 obtain ⟨k1,k2,_⟩:=m4 hM
 have k3:u.r.pd (gV [u.l] [t]).1=u.r.ap s:=by
  rw [CH] at k2 ⊢
  exact QF kZ uZ (k2.trans yj.symm)
 rw [k2,k3] at e1 e2
 generalize u.r.ap s=y at *
 have n3:¬ ((gV [u.l] [t]).2.2≠0∨(gV [u.l] [t]).2.1=false):=by rw [m1,m3,hM];simp
 by_cases c1:u.l.cE g=t.cE g
 ·have n1:¬ (u.l.head=0∨u.l.cE g≠t.cE g∨within u.r u.l=false):=by
   rintro (h | h | h)
   ·exact qS h
   ·exact h c1
   ·rw [uZ] at h;cases h
  rw [if_neg n1,if_neg n3] at e1 e2
  have hh:t.cE g=true→t.head≠0:=fun rQ h0=>by
   rw [← c1] at rQ
   have hh:¬ u.l.head<0:=by
    unfold Tm.cE at rQ
    simp only [aC,decide_eq_true_eq] at rQ
    omega
   rw [← yj,EA hh] at h0
   exact qS h0
  by_cases c2:bf g [oN t y]=0
  ·rw [if_neg (fun h=>h.1 c2)] at e1 e2
   constructor
   ·rintro ⟨_,_,a2,a3⟩
    have n4:¬ (t.gr g y=false∨rB g [oN t y] c≠-1):=by
     rintro (h | h)
     ·rw [a2] at h;cases h
     ·exact h a3
    rw [if_neg n4] at e1 e2
    have e3:=e2 e1.symm
    exact Prod.ext e3.symm e1.symm
   ·intro h
    rw [h] at e1
    simp only at e1
    split at e1
    ·cases e1
    ·rename_i n4
     refine ⟨c1,c2,?_,?_⟩
     ·cases hg:t.gr g y with
      | true=>rfl
      | false=>exact absurd (.inl hg) n4
     ·by_cases h3:rB g [oN t y] c = -1
      ·exact h3
      ·exact absurd (.inr h3) n4
  ·have c3:bf g [oN y t]≠0:=fun h=>c2 (VG hs hh h)
   rw [if_pos ⟨c2,c3⟩] at e1 e2
   constructor
   ·rintro ⟨_,a1,_⟩;exact absurd a1 c2
   ·intro h;rw [h] at e1;cases e1
 ·have n1:u.l.head=0∨u.l.cE g≠t.cE g∨within u.r u.l=false:=.inr (.inl c1)
  rw [if_pos n1] at e1
  constructor
  ·rintro ⟨h,_⟩;exact absurd h c1
  ·intro h;rw [h] at e1;cases e1
theorem Fo {g:List Sy} {c:List Li} {u:Un} {t:Tm} (hc:jm g c) (hl:gM g u.l) (hr:gM g u.r) (ht:gM g t) (hb:dP u=false):(eV g c u t).2=true↔∃ s:Int→Tm,u.l.ap s=t∧u.l.cE g=t.cE g∧t_ g c t (u.r.ap s):=by
 constructor
 ·intro h
  obtain ⟨s,h1,h2,_⟩:=Vb hl hr ht hb h
  exact ⟨s,(H4 hc hl hr ht hb s).2 ⟨h1,Prod.ext h2 h⟩⟩
 ·rintro ⟨s,h⟩
  rw [((H4 hc hl hr ht hb s).1 h).2]
section
variable {α:Type} {same gt : α→α→Bool} {P : α→Prop} {f : α→α}
theorem Pz (hs:∀ x y,P x→P y→same (f x) (f y)=same x y) {x : α} (hx:P x):∀ b:List α,(∀ y∈b,P y)→qF same (f x) (b.map f)=(qF same x b).map (List.map f)
 | [],_=>rfl
 | y :: b,hb=>by
  rw [aB,qF,qF,hs x y hx (hb y (by simp)),Pz hs hx b fun z hz=>hb z (by simp [hz])]
  split
  ·rfl
  ·cases qF same x b<;>rfl
theorem Pl {x : α}:∀ {b b':List α},qF same x b=some b'→∀ y∈b',y∈b
 | [],b',h=>by rw [qF] at h;cases h
 | y :: b,b',h=>by
  rw [qF] at h
  split at h
  ·cases h;intro z hz;exact cu _ hz
  ·cases hr:qF same x b with
   | none=>rw [hr] at h;cases h
   | some b1 =>
    rw [hr] at h
    cases h
    intro z hz
    rcases aR.1 hz with rfl | hz
    ·simp
    ·exact cu _ (Pl hr z hz)
theorem H8 (hs:∀ x y,P x→P y→same (f x) (f y)=same x y):∀ a b:List α,(∀ y∈a,P y)→(∀ y∈b,P y)→de same (a.map f) (b.map f)=(de same a b).map f
 | [],b,_,_=>by rw [aP,de,de];rfl
 | x :: a,b,ha,hb=>by
  rw [aB,de,de,Pz hs (ha x (by simp)) b hb]
  cases hr:qF same x b with
  | none=>simp only [iN,aB];rw [H8 hs a b (fun y hy=>ha y (by simp [hy])) hb]
  | some b'=>simp only [bu];exact H8 hs a b' (fun y hy=>ha y (by simp [hy])) fun y hy=>hb y (Pl hr y hy)
theorem P2 (hg:∀ x y,P x→P y→gt (f x) (f y)=gt x y) {a b:List α} (ha:∀ y∈a,P y) (hb:∀ y∈b,P y):oQ gt (a.map f) (b.map f)=oQ gt a b:=by
 unfold oQ
 rw [ak,List.all_map]
 congr 1
 rw [dD,bj,bj]
 constructor
 ·intro h y hy
  have:=h y hy
  simp only [Function.comp] at this
  rw [List.any_map] at this
  obtain ⟨x,hx,e⟩:=cT.1 this
  exact cT.2 ⟨x,hx,by rw [← hg x y (ha x hx) (hb y hy)];exact e⟩
 ·intro h y hy
  obtain ⟨x,hx,e⟩:=cT.1 (h y hy)
  simp only [Function.comp]
  rw [List.any_map]
  exact cT.2 ⟨x,hx,by simp only [Function.comp];rw [hg x y (ha x hx) (hb y hy)];exact e⟩
theorem Ps (hs:∀ x y,P x→P y→same (f x) (f y)=same x y) (hg:∀ x y,P x→P y→gt (f x) (f y)=gt x y) {a b:List α} (ha:∀ y∈a,P y) (hb:∀ y∈b,P y):tK same gt (a.map f) (b.map f)=tK same gt a b:=by
 have r1:∀ y∈de same a b,P y:=fun y hy=>ha y (Bn same a b y hy)
 have r2:∀ y∈de same b a,P y:=fun y hy=>hb y (Bn same b a y hy)
 unfold tK
 simp only [Ag]
 simp only [H8 hs a b ha hb,H8 hs b a hb ha,P2 hg r1 r2,P2 hg r2 r1]
 simp only [ak]
end
def Li.rn (r:Int→Int) (l:Li):Li:=⟨l.neg,l.l.rn r,l.r.rn r⟩
def iP (r:Int→Int) (c:List Li):List Li:=c.map (Li.rn r)
def qE (p:Int→Prop) (t:Tm):Prop:=t.good=true∧t.dj p
def kj (p:Int→Prop) (l:Li):Prop:=qE p l.l∧qE p l.r
section
variable {r:Int→Int} {p:Int→Prop}
theorem F3 (hr:fp r p) (x y:Tm) (hx:qE p x) (hy:qE p y):rX (x.rn r) (y.rn r)=rX x y:=by
 simp only [rX]
 rw [dD,decide_eq_true_eq,decide_eq_true_eq]
 exact ⟨Ez hr x y hx.1 hy.1 hx.2 hy.2,fun e=>by rw [e]⟩
theorem Vv (hr:fp r p) (x y:Li) (hx:kj p x) (hy:kj p y):ew (x.rn r) (y.rn r)=ew x y:=by
 have e1:=F3 hr x.l y.l hx.1 hy.1
 have e2:=F3 hr x.r y.r hx.2 hy.2
 have e3:=F3 hr x.l y.r hx.1 hy.2
 have e4:=F3 hr x.r y.l hx.2 hy.1
 simp only [rX] at e1 e2 e3 e4
 unfold ew nk Li.rn
 simp only [e1,e2,e3,e4]
theorem Qv (l:Li):ko (l.rn r)=(ko l).map (Tm.rn r):=by
 unfold ko Li.rn
 simp only
 split<;>rfl
theorem PN {l:Li} (h:kj p l):∀ t∈ko l,qE p t:=fun t ht=>by
 rcases IF ht with rfl | rfl
 ·exact h.1
 ·exact h.2
theorem Yum (hr:fp r p) (g:List Sy) (x y:Li) (hx:kj p x) (hy:kj p y):xK g (x.rn r) (y.rn r)=xK g x y:=by
 unfold xK
 rw [Qv,Qv]
 exact Ps (P:=qE p) (F3 hr) (fun a b ha hb=>J7 hr g a b ha.1 hb.1 ha.2 hb.2) (PN hx) (PN hy)
theorem Yt4 (hr:fp r p) (g:List Sy) {c d:List Li} (hc:∀ l∈c,kj p l) (hd:∀ l∈d,kj p l):rB g (iP r c) (iP r d)=rB g c d:=by
 unfold rB iP
 exact Ps (P:=kj p) (Vv hr) (fun a b ha hb=>by rw [Yum hr g a b ha hb]) hc hd
theorem Yls (hr:fp r p) {t:Tm} (h:qE p t):(t.rn r).check=t.check:=by
 obtain ⟨a1,a2,a3,_⟩:=Bs hr [] t h.1 h.2
 unfold Tm.check
 rw [a1,a2,a3,h.1]
theorem LV (hr:fp r p) (g:List Sy) {t:Tm} (h:qE p t):(t.rn r).term g=t.term g:=by
 obtain ⟨_,_,_,a4,a5,_⟩:=Bs hr g t h.1 h.2
 unfold Tm.term
 rw [Yls hr h,a4,a5]
theorem Ln (hr:fp r p) {t:Tm} (h:qE p t):(t.rn r).head=0↔t.head=0:=by
 by_cases h1:t.head<0
 ·have:=(Ck hr h.2).2 h1
  constructor<;>intro<;>omega
 ·rw [(uV h1).1]
theorem XB (hr:fp r p) (g:List Sy) {l:Li} (h:kj p l):(l.rn r).check g=l.check g:=by
 unfold Li.check Li.rn
 simp only [LV hr g h.1,LV hr g h.2,FG hr g _ h.1.2,FG hr g _ h.2.2,Ln hr h.2,ne_eq]
theorem PC (hr:fp r p) (g:List Sy):∀ {c:List Li},(∀ l∈c,kj p l)→dF g (iP r c)=dF g c
 | [],_=>rfl
 | l :: c,h=>by
  rw [show iP r (l :: c)=l.rn r :: iP r c from rfl,dF,dF,XB hr g (h l (by simp)),PC hr g fun x hx=>h x (by simp [hx])]
theorem KX (hr:fp r p) (g:List Sy) {c:List Li} (h:∀ l∈c,kj p l):bf g (iP r c)=bf g c:=by
 unfold bf
 rw [PC hr g h]
 simp [iP]
theorem Cv {g:List Sy} {c:List Li} (h:jm g c) (hp:sQ p c):∀ l∈c,kj p l:=fun l hl=>by
 obtain ⟨a1,a2⟩:=tX h hl
 exact ⟨⟨(p7 (mW a1.1).1).2.2,(hp l hl).1⟩,(p7 (mW a2.1).1).2.2,(hp l hl).2⟩
theorem QE (hr:fp r p) {g:List Sy} {c:List Li} (h:jm g c) (hp:sQ p c):jm g (iP r c):=by
 have hk:=Cv h hp
 refine ⟨by rw [KX hr g hk];exact h.1,fun l hl=>?_⟩
 obtain ⟨x,hx,rfl⟩:=bZ.1 hl
 exact ⟨(Bs hr g _ (hk x hx).1.1 (hk x hx).1.2).2.2.2.2.2.2,(Bs hr g _ (hk x hx).2.1 (hk x hx).2.2).2.2.2.2.2.2⟩
theorem Yvr (hr:fp r p) {g:List Sy} {t:Tm} (h:gM g t) (hp:t.dj p):gM g (t.rn r):=by
 have hk:qE p t:=⟨(p7 (mW h.1).1).2.2,hp⟩
 exact ⟨by rw [LV hr g hk];exact h.1,(Bs hr g t hk.1 hk.2).2.2.2.2.2.2⟩
end
theorem Xc (g:List Sy) (t u:Tm):t.gr g u=true↔fK t u=true∧(u.mf g<t.mf g∨(t.mf g=u.mf g∧0≤t.head∧0≤u.head∧(u.head<t.head∨(t.head=u.head∧Tm.o_ g t.args u.args=true)))):=by
 rw [E9]
 cases h1:fK t u with
 | false=>simp
 | true =>
  rw [if_neg (by simp)]
  by_cases h2:t.mf g=u.mf g
  ·rw [if_neg (fun k=>k h2)]
   by_cases h3:t.head<0∨u.head<0
   ·rw [if_pos h3]
    constructor
    ·intro h;cases h
    ·rintro ⟨_,h | h⟩
     ·omega
     ·omega
   ·rw [if_neg h3]
    by_cases h4:t.head=u.head
    ·rw [if_neg (fun k=>k h4)]
     constructor
     ·intro h;exact ⟨rfl, .inr ⟨h2,by omega,by omega, .inr ⟨h4,h⟩⟩⟩
     ·rintro ⟨_,h | ⟨_,_,_,h | h⟩⟩
      ·omega
      ·omega
      ·exact h.2
    ·rw [if_pos h4,decide_eq_true_eq]
     constructor
     ·intro h;exact ⟨rfl, .inr ⟨h2,by omega,by omega, .inl h⟩⟩
     ·rintro ⟨_,h | ⟨_,_,_,h | h⟩⟩
      ·omega
      ·exact h
      ·exact absurd h.1 h4
  ·rw [if_pos h2,decide_eq_true_eq]
   constructor
   ·intro h;exact ⟨rfl, .inl h⟩
   ·rintro ⟨_,h | h⟩
    ·exact h
    ·exact absurd h.1 h2
mutual
theorem UL (g:List Sy):∀ t u v:Tm,t.gr g u=true→u.gr g v=true→t.gr g v=true
 | .mk h ts,u,v,h1,h2=>by
  have h0:=fun us vs=>SH g ts us vs
  rw [Xc] at h1 h2 ⊢
  obtain ⟨a1,a2⟩:=h1
  obtain ⟨b1,b2⟩:=h2
  refine ⟨?_,?_⟩
  ·rw [Fl] at a1 b1 ⊢
   exact fun w hw=>cV (b1 w hw) (a1 w hw)
  ·rcases a2 with a2 | ⟨a2,a3,a4,a5⟩<;>rcases b2 with b2 | ⟨b2,b3,b4,b5⟩
   ·exact .inl (by omega)
   ·exact .inl (by omega)
   ·exact .inl (by omega)
   ·refine .inr ⟨by omega,a3,b4,?_⟩
    rcases a5 with a5 | ⟨a5,a6⟩<;>rcases b5 with b5 | ⟨b5,b6⟩
    ·exact .inl (by omega)
    ·exact .inl (by omega)
    ·exact .inl (by omega)
    ·exact .inr ⟨by omega,h0 _ _ a6 b6⟩
theorem SH (g:List Sy):∀ ts us vs:List Tm,Tm.o_ g ts us=true→Tm.o_ g us vs=true→Tm.o_ g ts vs=true
 | [],us,vs,h1,_=>by rw [Tm.o_] at h1;cases h1
 | t :: ts,[],vs,h1,_=>by rw [Tm.o_] at h1;cases h1
 | t :: ts,u :: us,[],_,h2=>by rw [Tm.o_] at h2;cases h2
 | t :: ts,u :: us,v :: vs,h1,h2=>by
  rw [Tm.o_] at h1 h2 ⊢
  by_cases e1:t=u
  ·rw [if_pos e1] at h1
   by_cases e2:u=v
   ·rw [if_pos e2] at h2
    rw [if_pos (e1.trans e2)]
    exact SH g ts us vs h1 h2
   ·rw [if_neg e2] at h2
    rw [if_neg (by rw [e1];exact e2),e1]
    exact h2
  ·rw [if_neg e1] at h1
   by_cases e2:u=v
   ·rw [← e2,if_neg e1];exact h1
   ·rw [if_neg e2] at h2
    have h3:=UL g t u v h1 h2
    have h4:t≠v:=fun e=>by
     rw [← e,QA] at h3;cases h3
    rw [if_neg h4];exact h3
end
section
variable {α:Type} {same gt : α→α→Bool}
theorem Qh (hi:∀ x,gt x x=false) (ht:∀ x y z,gt x y=true→gt y z=true→gt x z=true):∀ l:List α,l≠[]→∃ m∈l, ∀ z∈l,gt z m=false
 | [],h=>absurd rfl h
 | [a],_=>⟨a,by simp,fun z hz=>by rw [aM.1 hz];exact hi a⟩
 | a :: b :: l,_=>by
  obtain ⟨m,h1,h2⟩:=Qh hi ht (b :: l) (by simp)
  cases hg:gt a m with
  | true =>
   refine ⟨a,by simp,fun z hz=>?_⟩
   rcases aR.1 hz with rfl | hz
   ·exact hi _
   ·cases rT:gt z a with
    | false=>rfl
    | true =>
     have:=h2 z hz
     rw [ht z a m rT hg] at this;cases this
  | false =>
   refine ⟨m,by simp [h1],fun z hz=>?_⟩
   rcases aR.1 hz with rfl | hz
   ·exact hg
   ·exact h2 z hz
theorem Yn0 (hi:∀ x,gt x x=false) (ht:∀ x y z,gt x y=true→gt y z=true→gt x z=true) {a b:List α} (h1:oQ gt a b=true) (h2:oQ gt b a=true):False:=by
 unfold oQ at h1 h2
 rw [aC,bj,decide_eq_true_eq] at h1 h2
 obtain ⟨m,k1,k2⟩:=Qh hi ht (a++b) (fun e=>by have h3:=h1.2;rw [(List.append_eq_nil_iff.1 e).1] at h3;exact absurd h3 (by simp))
 rcases aW.1 k1 with k1 | k1
 ·obtain ⟨x,e1,e2⟩:=cT.1 (h2.1 m k1)
  rw [k2 x (lE _ e1)] at e2;cases e2
 ·obtain ⟨x,e1,e2⟩:=cT.1 (h1.1 m k1)
  rw [k2 x (gN _ e1)] at e2;cases e2
theorem QN {a b:List α} (h:tK same gt a b=1):oQ gt (de same a b) (de same b a)=true:=by
 unfold tK at h
 simp only [Ag] at h
 split at h
 ·omega
 split at h
 ·assumption
 split at h
 ·omega
 ·omega
theorem Xu {a b:List α} (h:tK same gt a b = -1):oQ gt (de same b a) (de same a b)=true:=by
 unfold tK at h
 simp only [Ag] at h
 split at h
 ·omega
 split at h
 ·omega
 split at h
 ·assumption
 ·omega
theorem Ys9 (h:oT same) (hg:xM same gt) (ha:∀ x y,gt x y=true→gt y x=false) {e : α} {c c':List α} (hs:∀ x,dT same x c'≤dT same x c) (hm:tK same gt [e] c' = -1):tK same gt [e] c = -1:=by
 have hm:=Xu hm
 rw [Cy h hg] at hm
 obtain ⟨m1,x1,m2⟩:=hm
 simp only [zn h] at m1 m2
 have o1:oQ gt (de same c [e]) (de same [e] c)=true:=by
  rw [Cy h hg]
  simp only [zn h]
  refine ⟨fun y hy=>?_,x1,?_⟩
  ·have:=hs y
   obtain ⟨x,k1,k2⟩:=m1 y (by omega)
   have:=hs x
   exact ⟨x,by omega,k2⟩
  ·have:=hs x1;omega
 have o2:¬ oQ gt (de same [e] c) (de same c [e])=true:=by
  rw [Cy h hg]
  simp only [zn h]
  rintro ⟨n1,x0,n2⟩
  have DG:∀ z,0<dT same z [e] - dT same z c→same z e=true:=fun z hz=>by
   by_cases B1:same z e=true
   ·exact B1
   ·simp only [dT,if_neg B1] at hz;omega
  have:=hs x0
  obtain ⟨x,k1,k2⟩:=m1 x0 (by omega)
  have:=hs x
  obtain ⟨w,k3,k4⟩:=n1 x (by omega)
  have k5:=h.trans _ _ _ (DG w k3) (h.symm _ _ (DG x0 n2))
  rw [hg w x0 x x k5 (h.refl _)] at k4
  rw [ha x x0 k2] at k4;cases k4
 have o3:¬ (de same [e] c).length+(de same c [e]).length=0:=by
  rw [L7 h]
  intro k
  have k:=(k x1).2
  rw [zn h] at k
  have:=hs x1
  omega
 unfold tK
 simp only [Ag]
 rw [if_neg o3,if_neg o2,if_pos o1]
end
theorem Ylf (g:List Sy) (x y:Li) (h:decide (xK g x y=1)=true):decide (xK g y x=1)=false:=by
 simp only [decide_eq_true_eq,decide_eq_false_iff_not] at h ⊢
 intro k
 exact Yn0 (QA g) (UL g) (QN h) (QN k)
def A9 (d c:List Li):Prop:=(∀ x,dT ew x d≤dT ew x c)∧∀ l∈d,l∈c
theorem Ymu {g:List Sy} {c d:List Li} {u:Un} {t:Tm} (hs:A9 d c) (hc:jm g c) (hd:jm g d) (hl:gM g u.l) (hr:gM g u.r) (ht:gM g t) (hb:dP u=false) (h:(eV g d u t).2=true):(eV g c u t).2=true:=by
 obtain ⟨s,h1,h2,h3,h4,h5⟩:=(Fo hd hl hr ht hb).1 h
 exact (Fo hc hl hr ht hb).2 ⟨s,h1,h2,h3,h4,Ys9 Zk (Ynd g) (Ylf g) hs.1 h5⟩
theorem Km {T:Un→ln→Tm×Bool} {s:ln}:∀ {us:List Un},ft T s us=none↔∀ u∈us,(T u s).2=false
 | []=>by simp [ft]
 | u :: us=>by
  rw [ft]
  cases h:(T u s).2 with
  | true=>simp [h]
  | false =>
   rw [if_neg (by simp),Km]
   constructor
   ·intro k x hx
    rcases aR.1 hx with rfl | hx
    ·exact h
    ·exact k x hx
   ·intro k x hx;exact k x (by simp [hx])
theorem RF {T:Un→ln→Tm×Bool} {us:List Un}:∀ {ss:List ln},iI T us ss=none↔∀ s∈ss, ∀ u∈us,(T u s).2=false
 | []=>by simp [iI]
 | s :: ss=>by
  rw [iI]
  cases h:ft T s us with
  | some x =>
   constructor
   ·intro k;cases k
   ·intro k
    rw [Km.2 (k s (by simp))] at h;cases h
  | none =>
   simp only
   rw [RF]
   constructor
   ·intro k x hx
    rcases aR.1 hx with rfl | hx
    ·exact Km.1 h
    ·exact k x hx
   ·intro k x hx;exact k x (by simp [hx])
theorem KK:∀ (c:List Li) (i:Nat) (s:ln),s∈cr c i↔∃ (j:Nat) (h:j<c.length),s∈kh (i+j) c[j]
 | [],i,s=>by simp [cr]
 | l :: c,i,s=>by
  rw [cr,aW,KK c (i+1) s]
  constructor
  ·rintro (h | ⟨j,hj,h⟩)
   ·exact ⟨0,by simp,by simpa using h⟩
   ·exact ⟨j+1,by simpa using hj,by rw [show i+(j+1)=i+1+j by omega];simpa using h⟩
  ·rintro ⟨j,hj,h⟩
   cases j with
   | zero=>exact .inl (by simpa using h)
   | succ j=>exact .inr ⟨j,by simpa using hj,by rw [show i+1+j=i+(j+1) by omega];simpa using h⟩
theorem Zzc {i k:Nat} {l:Li} {s:ln} (h:s∈kh i l):∃ s'∈kh k l,s'.t=s.t:=by
 unfold kh cO at h ⊢
 rcases aW.1 h with h | h<;>obtain ⟨q,hq,rfl⟩:=bZ.1 h
 ·exact ⟨_,gN _ (bZ.2 ⟨q,hq,rfl⟩),rfl⟩
 ·exact ⟨_,lE _ (bZ.2 ⟨q,hq,rfl⟩),rfl⟩
theorem Yfn {d c:List Li} (hs:∀ l∈d,l∈c) {s:ln} (h:s∈cr d 0):∃ s'∈cr c 0,s'.t=s.t:=by
 obtain ⟨j,hj,h1⟩:=(KK d 0 s).1 h
 obtain ⟨k,hk,e⟩:=lX.1 (hs _ (aE hj))
 rw [← e] at h1
 obtain ⟨s',h2,h3⟩:=Zzc (k:=0+k) h1
 exact ⟨s',(KK c 0 s').2 ⟨k,hk,h2⟩,h3⟩
def calm (g:List Sy) (us:List Un) (c:List Li):Prop:=iI (TT g c) us (cr c 0)=none
theorem VI {g:List Sy} {us:List Un} {c d:List Li} (hs:A9 d c) (hc:jm g c) (hd:jm g d) (hu:∀ u∈us,dP u=false∧gM g u.l∧gM g u.r) (h:calm g us c):calm g us d:=by
 unfold calm at h ⊢
 rw [RF] at h ⊢
 intro s rP u u0
 obtain ⟨s',h1,h2⟩:=Yfn hs.2 rP
 obtain ⟨b1,b2,b3⟩:=hu u u0
 cases hb:(TT g d u s).2 with
 | false=>rfl
 | true =>
  have:=Ymu hs hc hd b2 b3 (US hd s rP) b1 hb
  have k:=h s' h1 u u0
  unfold TT at k
  rw [h2,this] at k;cases k
theorem K5 {g:List Sy} {us:List Un} {c:List Li}:calm g us c↔((eF g us c).2.2.2=0∧(eF g us c).2.2.1=false):=by
 unfold calm eF ld
 cases h:iI (TT g c) us (cr c 0) with
 | none=>simp
 | some x =>
  constructor
  ·intro k;cases k
  ·rintro ⟨k1,k2⟩
   simp only at k1 k2
   split at k2
   ·cases k2
   ·rename_i hc;rw [if_neg hc] at k1;exact absurd k1 hc
theorem Fq {g:List Sy} {es:List (List Li)} {c:List Li} (hw:cF g (c :: es)=0):calm g (cQ es) c↔(cB g es c).2.2=0∧(cB g es c).2.1=[]:=by
 have e1:cB g es c=fg (eF g (cQ es)) 201 c []:=by unfold cB gk;exact if_neg (fun k=>k hw)
 rw [K5,e1]
 constructor
 ·rintro ⟨h1,h2⟩
  rw [fg,if_neg (fun k=>k h1),if_pos h2]
  exact ⟨rfl,rfl⟩
 ·rintro ⟨h1,h2⟩
  rw [fg] at h1 h2
  by_cases h3:(eF g (cQ es) c).2.2.2=0
  ·rw [if_neg (fun k=>k h3)] at h1 h2
   refine ⟨h3,?_⟩
   by_cases h4:(eF g (cQ es) c).2.2.1=false
   ·exact h4
   ·rw [if_neg h4] at h1 h2
    split at h1
    ·cases h1
    ·rename_i h5
     rw [if_neg h5] at h2
     have:=(Lk (P:=fun _=>True) (fun _ _ _ _=>trivial) 200 _ _ trivial h1).2.2.2.1
     rw [h2] at this
     simp at this
  ·rw [if_pos h3] at h1;exact absurd h1 h3
theorem Ypf {g:List Sy} {es:List (List Li)} {c:List Li} (hw:cF g (c :: es)=0) (h:calm g (cQ es) c):cB g es c=(c,[],0):=by
 have e1:cB g es c=fg (eF g (cQ es)) 201 c []:=by unfold cB gk;exact if_neg (fun k=>k hw)
 rw [K5] at h
 rw [e1,fg,if_neg (fun k=>k h.1),if_pos h.2]
theorem Z1 {g:List Sy} {es:List (List Li)} {c:List Li} (h:qC es c) (h0:(cB g es c).2.2=0):calm g (cQ es) (cB g es c).1:=by
 obtain ⟨hw,hx,e,_⟩:=LF h h0
 have r8:cF g ((cB g es c).1 :: es)=0:=by
  rw [cF,if_neg (fun k=>k hx.1)]
  rw [cF] at hw
  split at hw
  ·rename_i h3;exact absurd hw h3
  ·exact hw
 rw [Fq r8,e]
 exact ⟨rfl,rfl⟩
def lg (l:Li):Bool:=decide (l.l=l.r)
def qq (a b:Li):Bool:=decide (a.neg≠b.neg)&&nk a b
def iu:List Li→List Li→List Li
 | out,[]=>out
 | out,l :: c=>if ((out.any fun m=>ew l m)||(l.neg&&lg l))=true then iu out c else iu (out++[l]) c
def iq (c:List Li):List Li:=iu [] c
def mQ:List Li→List Li→Bool
 | _,[]=>false
 | b,l :: c=>if ((b.any fun m=>qq l m)||(!l.neg&&lg l))=true then true else mQ (b++[l]) c
def jC (c:List Li):Bool:=mQ [] c
def lh (b:List Bd) (p t:Tm):Option (List Bd):=fD [(p,t)] b
def la (l:Li):Bool:=decide (l.l.head=0)||decide (l.r.head=0)
def kr (b:List Bd) (a:Li) (x y:Tm) (F:List Bd→Bool):Bool:=match lh b a.l x with
 | none=>false
 | some m=>match lh m a.r y with
  | none=>false
  | some k=>F k
def lN (b:List Bd) (a l:Li) (F:List Bd→Bool):Bool:=if la a≠la l then false else kr b a l.l l.r F||kr b a l.r l.l F
def jd:Li:=⟨false,fI,fI⟩
def ml (d:List Li):List Li→List Bool→List Bd→Bool
 | [],_,_=>true
 | a :: c,us,b=>(List.range d.length).any fun k=>!us.getD k false&&decide ((d.getD k jd).neg=a.neg)&&lN b a (d.getD k jd) fun m=>ml d c (us.set k true) m
def qp (l:Li):Bool:=decide (l.l.check≠0)||decide (l.r.check≠0)
def jH (c d:List Li):Int:=if 32<c.length∨32<d.length then 2 else if (c.any qp||d.any qp)=true then 1 else 0
def gF (d:List Li):List Bool:=List.replicate d.length false
def rE (c d:List Li):Bool:=decide (c.length≤d.length)&&ml d c (gF d) []
def oq (c d:List Li):Bool×Int:=if jH c d≠0 then (false,jH c d) else (rE c d,0)
def cutAt (c d:List Li) (k i:Nat):Bool:=decide ((c.getD i jd).neg≠(d.getD k jd).neg)&&lN [] (c.getD i jd) (d.getD k jd) fun m=>ml d (c.eraseIdx i) ((gF d).set k true) m
def qP (c d:List Li):Option Nat:=(List.range d.length).find? fun k=>(List.range c.length).any fun i=>cutAt c d k i
def mr (c d:List Li):Int×Bool×Int:=if jH c d≠0 then (0,false,jH c d) else match qP c d with
 | some k=>((k:Int),true,0)
 | none=>(0,false,0)
theorem K8:∀ (c out:List Li), ∀ x∈iu out c,x∈out∨x∈c
 | [],out,x,h=>.inl (by rw [iu] at h;exact h)
 | a :: c,out,x,h=>by
  rw [iu] at h
  split at h
  ·exact (K8 c out x h).imp id (cu _)
  ·rcases K8 c _ x h with h | h
   ·rcases aW.1 h with h | h
    ·exact .inl h
    ·rw [aM.1 h];exact .inr (by simp)
   ·exact .inr (cu _ h)
theorem U3 {α:Type} (same : α→α→Bool) (x : α):∀ a b:List α,dT same x (a++b)=dT same x a+dT same x b
 | [],b=>by rw [bh,dT];omega
 | y :: a,b=>by rw [bn,dT,dT,U3 same x a b];omega
theorem K7 (x:Li):∀ (c out:List Li),dT ew x (iu out c)≤dT ew x out+dT ew x c
 | [],out=>by rw [iu,dT];exact ah _
 | a :: c,out=>by
  rw [iu]
  split
  ·have:=K7 x c out;rw [dT];omega
  ·have:=K7 x c (out++[a]);rw [U3] at this;simp only [dT] at this ⊢;omega
theorem KP:∀ (c out:List Li),(iu out c).length≤out.length+c.length
 | [],out=>by rw [iu];simp
 | a :: c,out=>by
  rw [iu]
  split
  ·have:=KP c out;rw [ax];omega
  ·have:=KP c (out++[a]);rw [ay] at this;simp only [ax,aS] at this ⊢;omega
theorem Ul (c:List Li):A9 (iq c) c:=by
 refine ⟨fun x=>?_,fun l hl=>?_⟩
 ·have:=K7 x c [];rw [dT] at this;unfold iq;omega
 ·rcases K8 c [] l hl with h | h
  ·cases h
  ·exact h
theorem Uy (c:List Li):(iq c).length≤c.length:=by have:=KP c [];unfold iq;simpa using this
def mS:List Li→Prop
 | []=>True
 | l :: c=>(l.neg&&lg l)=false∧(∀ m∈c,ew m l=false)∧mS c
theorem LA:∀ a b:List Li,mS (a++b)↔mS a∧mS b∧∀ x∈a, ∀ y∈b,ew y x=false
 | [],b=>by simp [mS]
 | l :: a,b=>by
  rw [bn,mS,mS,LA a b]
  constructor
  ·rintro ⟨h1,h2,h3,h4,h5⟩
   refine ⟨⟨h1,fun m hm=>h2 m (gN _ hm),h3⟩,h4,fun x hx y hy=>?_⟩
   rcases aR.1 hx with rfl | hx
   ·exact h2 y (lE _ hy)
   ·exact h5 x hx y hy
  ·rintro ⟨⟨h1,h2,h3⟩,h4,h5⟩
   refine ⟨h1,fun m hm=>?_,h3,h4,fun x hx y hy=>h5 x (cu _ hx) y hy⟩
   rcases aW.1 hm with hm | hm
   ·exact h2 m hm
   ·exact h5 l (by simp) m hm
theorem Kt:∀ (c out:List Li),mS out→mS (iu out c)
 | [],out,h=>by rw [iu];exact h
 | a :: c,out,h=>by
  rw [iu]
  split
  ·exact Kt c out h
  ·rename_i hn
   simp only [b9,not_or,df] at hn
   refine Kt c _ ((LA out [a]).2 ⟨h,⟨hn.2,fun m hm=>(by cases hm),trivial⟩,fun x hx y hy=>?_⟩)
   rw [aM.1 hy]
   cases hs:ew a x with
   | false=>rfl
   | true =>
    have:=cT.2 ⟨x,hx,hs⟩
    rw [hn.1] at this;cases this
theorem Uf (c:List Li):mS (iq c):=Kt c [] trivial
theorem UE:∀ (c out:List Li),mS (out++c)→iu out c=out++c
 | [],out,_=>by rw [iu,bq]
 | a :: c,out,h=>by
  have h0:=h
  rw [LA] at h
  obtain ⟨h1,⟨h2,h3,h4⟩,h5⟩:=h
  have hn:¬ ((out.any fun m=>ew a m)||(a.neg&&lg a))=true:=by
   rw [h2,ou]
   intro k
   obtain ⟨x,hx,e⟩:=cT.1 k
   rw [h5 x hx a (by simp)] at e;cases e
  rw [iu,if_neg hn,UE c (out++[a]) (by rw [cx];exact h0),cx];rfl
theorem Yt5 {c:List Li} (h:mS c):iq c=c:=UE c [] h
theorem R6:∀ {c:List Li} (k:Nat),mS c→mS (c.eraseIdx k)
 | [],k,h=>by simpa using h
 | l :: c,0,h=>by rw [List.eraseIdx_cons_zero];exact h.2.2
 | l :: c,k+1,h=>by
  rw [List.eraseIdx_cons_succ]
  exact ⟨h.1,fun m hm=>h.2.1 m (ow hm),R6 k h.2.2⟩
theorem TL (c:List Li) (k:Nat):A9 (c.eraseIdx k) c:=by
 refine ⟨fun x=>?_,fun l hl=>ow hl⟩
 induction c generalizing k with
 | nil=>simp
 | cons a c ih =>
  cases k with
  | zero=>rw [List.eraseIdx_cons_zero,dT];omega
  | succ k=>rw [List.eraseIdx_cons_succ,dT,dT];have:=ih k;omega
theorem OY {g:List Sy} {d c:List Li} (hs:∀ l∈d,l∈c) (hl:d.length≤c.length) (hc:jm g c):jm g d:=by
 refine ⟨?_,fun l h=>hc.2 l (hs l h)⟩
 obtain ⟨h1,h2,h3⟩:=xR hc.1
 unfold bf
 rw [if_neg (by rw [h1];simp),if_neg (by omega)]
 have key:∀ c:List Li,(∀ l∈c,l.check g=0)→dF g c=0:=by
  intro c
  induction c with
  | nil=>intro _;rfl
  | cons a c ih =>
   intro h
   rw [dF,if_neg (fun k=>k (h a (by simp)))]
   exact ih fun l hl=>h l (by simp [hl])
 exact key d fun l h=>h3 l (hs l h)
theorem PW {g:List Sy} {c:List Li} (hc:jm g c):jm g (iq c):=OY (Ul c).2 (Uy c) hc
theorem Yku {g:List Sy} {c:List Li} (k:Nat) (hc:jm g c):jm g (c.eraseIdx k):=OY (TL c k).2 (List.length_eraseIdx_le _ _) hc
end Go.Proofs
namespace Go.Proofs
open Go Go.c8
attribute [local go_sem] Nat.reduceAdd Nat.reduceSub Nat.reduceMul Nat.reduceLeDiff Nat.reduceEqDiff Nat.reduceBEq Nat.reduceLT Nat.le_refl Int.natCast_zero Nat.sub_zero List.length_map Int.toNat_natCast Int.natCast_one Int.reduceEq Int.reduceLT Int.reduceLE Int.reduceNe Int.sub_zero Int.zero_add Int.toNat_one
theorem Ysh (l:Li) (h1:l.l.size<999999999) (h2:l.r.size<999999999):aJ Tryz.prog 89 [l.aO] (.bool (qp l)):=by
 refine aJ.begin (rs:=[.tmp 2]) (m:=12) 1000 Tryz.func89 rfl rfl rfl (by decide) trivial ?_
 have c1:=Cm l.l h1
 have c2:=Cm l.r h2
 unfold qp
 simp only [go_sem,kL]
 refine aq.bV [] (c1) (by (try simp only [dh]);exact cJ _ _ _) (by simp [go_sem,dH,bR]) ?_;simp only [bP,bY,bX,if_true];refine aK.go 1000 ?_
 by_cases e1:l.l.check=0
 ·simp only [go_sem,e1]
  refine aq.bV [] (c2) (by (try simp only [dh]);exact cJ _ _ _) (by simp [go_sem,dH,bR]) ?_;simp only [bP,bY,bX,if_true];refine aK.go 1000 ?_
  by_cases e2:l.r.check=0
  ·simp only [go_sem,e2]
  ·simp only [go_sem,e2]
 ·simp only [go_sem,e1]
theorem Ur (l:Li):aJ Tryz.prog 131 [l.aO] (.bool (la l)):=by
 refine aJ.begin (rs:=[.tmp 2]) (m:=12) 1000 Tryz.func131 rfl rfl rfl (by decide) trivial ?_
 unfold la
 by_cases e1:l.l.head=0
 ·simp only [go_sem,kL,e1]
 ·by_cases e2:l.r.head=0
  ·simp only [go_sem,kL,e1,e2]
  ·simp only [go_sem,kL,e1,e2]
def rG (L:List (List Li)):Int:=if (L.any fun c=>decide (32<c.length))=true then 2 else if (L.any fun c=>c.any qp)=true then 1 else 0
theorem VU (c d:List Li):rG [c,d]=jH c d:=by
 unfold rG jH
 simp
def DS (c:List Li):Prop:=(∀ l∈c,l.l.size<999999999∧l.r.size<999999999)∧c.length<2 ^ 62
theorem S5 (L:List (List Li)) (hL:∀ c∈L,DS c) (hl:L.length<1000000) :
  aJ Tryz.prog 54 [.ps 1 (da L)] (.int .i64 (rG L)):=by
 refine aJ.begin (rs:=[.tmp 2]) (m:=27) 1000 Tryz.func54 rfl rfl rfl (by decide) trivial ?_
 have hf:∀ e:List Li,DS e→aq Tryz.prog (.fn 63 [] []) [.ps 5 (lits e), .fn 89 [] []] [] (fun r σ'=>r = .bool (e.any qp)∧σ'=[]):=fun e he =>
  HI [] _ qp e he.2 trivial (by simp [go_sem]) fun i hi=>by
   obtain ⟨a1,a2⟩:=he.1 _ (aE hi)
   refine aq.bV [] (Ysh e[i] a1 a2) (cJ _ _ _) (by simp [go_sem,na]) ?_
   simp only [bP,if_true]
   trivial
 obtain ⟨Y,hY⟩:∃ Y,(L.any fun c=>decide (32<c.length))=Y:=⟨_,rfl⟩
 obtain ⟨Z,hZ⟩:∃ Z,(L.any fun c=>c.any qp)=Z:=⟨_,rfl⟩
 have hW:rG L=if Y=true then 2 else if Z=true then 1 else 0:=by unfold rG;rw [hY,hZ]
 rw [hW]
 simp only [go_sem]
 refine aK.dc (ι:={i:Nat // i≤L.length∧((L.drop i).any fun c=>decide (32<c.length))=Y}) 1000 (fun q=>f_ 28 [(0, .ps 1 (da L)),(2, .int .i64 0),(8, .ps 1 (da L)),(9, .int .i64 L.length),(10, .int .i64 q.1)])
  (fun _=>[]) (fun q=>L.length - q.1) ⟨0,av _,by rw [dn];first | exact hY | exact hZ⟩ ?_ (fun _=>av _) ?_
 ·simp only [go_sem,fy,nM]
 ·rintro ⟨i,hi,aQ⟩
  by_cases bG:(i:Int)<L.length
  ·have aZ:i<L.length:=by omega
   have hw:IntKind.i64.wrap ((i:Int)+1)=((i+1:Nat):Int):=by rw [eC (by omega)];omega
   have g1:=Ae aZ
   rw [ao aZ,eh] at aQ
   generalize L[i]=c at *
   by_cases hc:(32:Int)<c.length
   ·have qW:decide (32<c.length)=true:=by simp;omega
    rw [qW,fU] at aQ
    subst aQ
    rw [if_pos rfl]
    simp only [go_sem,bG,nM,g1,gj,hc]
    refine ⟨by omega,?_⟩
    refine aK.go 1000 ?_
    simp only [go_sem]
   ·have qW:decide (32<c.length)=false:=by simp;omega
    rw [qW,du] at aQ
    simp only [go_sem,bG,nM,g1,gj,hc]
    refine ⟨by omega,⟨i+1,by omega,aQ⟩,?_,by simp only;omega⟩
    simp only [go_sem,fy,hw]
  ·have dV:i=L.length:=by omega
   subst dV
   rw [aV,mR] at aQ
   subst aQ
   rw [if_neg (by simp)]
   simp only [go_sem,bG]
   refine aK.go 1000 ?_
   simp only [go_sem]
   refine aK.dc (ι:={i:Nat // i≤L.length∧((L.drop i).any fun c=>c.any qp)=Z}) 1000 (fun q=>f_ 28 [(2, .int .i64 0),(5, .fn 89 [] []),(18, .ps 1 (da L)),(19, .int .i64 L.length),(20, .int .i64 q.1)])
    (fun _=>[]) (fun q=>L.length - q.1) ⟨0,av _,by rw [dn];first | exact hY | exact hZ⟩ ?_ (fun _=>av _) ?_
   ·simp only [go_sem,fy,nM]
   ·rintro ⟨i,hi,aQ⟩
    by_cases bG:(i:Int)<L.length
    ·have aZ:i<L.length:=by omega
     have hw:IntKind.i64.wrap ((i:Int)+1)=((i+1:Nat):Int):=by rw [eC (by omega)];omega
     have g1:=Ae aZ
     have hk:=hf _ (hL _ (aE aZ))
     rw [ao aZ,eh] at aQ
     generalize L[i]=c at *
     simp only [go_sem,bG,nM,g1]
     refine ⟨by omega,?_⟩
     refine hk.mono ?_
     rintro r σ' ⟨rfl,rfl⟩
     cases hc:c.any qp with
     | true =>
      rw [hc,fU] at aQ
      subst aQ
      rw [if_pos rfl]
      refine aK.go 1000 ?_
      simp only [go_sem]
      refine aK.go 1000 ?_
      simp only [go_sem]
     | false =>
      rw [hc,du] at aQ
      refine aK.go 1000 ?_
      simp only [go_sem]
      refine ⟨⟨i+1,by omega,aQ⟩,?_,by simp only;omega⟩
      simp only [go_sem,fy,hw]
    ·have dV:i=L.length:=by omega
     subst dV
     rw [aV,mR] at aQ
     subst aQ
     rw [if_neg (by simp)]
     simp only [go_sem,bG]
     refine aK.go 1000 ?_
     simp only [go_sem]
theorem Zn (ks vs:List ae) (σ:ai) (hs:bw σ.length σ) (hk:bz 0 ks) (hv:bz 0 vs):aq Tryz.prog (.fn 158 [] []) [.pm ks vs] σ
  (fun r σ'=>r = .map σ.length∧σ' = σ++[some (.map ks vs false)]):=by
 have AK:∀ {n},bz n ks:=fun {n}=>iC (av n) hk
 have hvn:∀ {n},bz n vs:=fun {n}=>iC (av n) hv
 refine aq.begin (rs:=[.tmp 2]) (m:=8) 1000 Tryz.func158 rfl rfl rfl rfl rfl ?_
 simp only [go_sem]
 refine aq.xi Tryz.func184 (by kernel_rfl) (by kernel_rfl) (by kernel_rfl) (by kernel_rfl) ?_
 refine aK.go 1000 ?_
 simp only [go_sem]
 rw [fY]
 refine ⟨_,fN _,by simp,py (nL (by simp) hs) ?_,?_,rfl,rfl⟩
 ·simp [go_sem,AK,hvn]
 ·simp [go_sem]
def mapA:Option (List Bd)→ae
 | none=>.cC
 | some m=>.pm (fF m) (gf m)
theorem Yjx (o:Option (List Bd)):(mapA o).low 0:=by
 cases o with
 | none=>trivial
 | some m=>exact ⟨(iO m).1,(iO m).2⟩
set_option maxHeartbeats 1000000 in
theorem U1 (b:List Bd) (p t:Tm) (hp:p.fit) (hps:p.size<99999999) (rR:t.size<99999999) (hb:∀ x∈b,x.t.size<99999999) :
  aJ Tryz.prog 132 [.pm (fF b) (gf b),p.aO,t.aO] (mapA (lh b p t)):=by
 refine aJ.begin (rs:=[.tmp 6]) (m:=83) 1000 Tryz.func132 rfl rfl rfl (by decide) (Yjx _) ?_
 obtain ⟨g,hg⟩:∃ g,lh b p t=g:=⟨_,rfl⟩
 rw [hg]
 unfold lh at hg
 simp only [go_sem,fJ]
 refine (Zn _ _ _ (by simp [go_sem,bR]) (iO b).1 (iO b).2).mono ?_
 rintro r σ' ⟨rfl,rfl⟩
 refine aK.go 1000 ?_
 simp only [go_sem,bn,bh,ax,aS]
 refine aK.draw [⟨none,[],[4]⟩,⟨some 3,[3],[4]⟩,⟨none,[],[3]⟩,⟨some 4,[4],[3]⟩,⟨none,[],[4]⟩] 3 5 mixed rfl rfl (by decide) ?_
 simp only [go_sem,dC]
 refine aK.go 1000 ?_
 simp only [go_sem]
 have hA1:oi [(p,t)]=[.agg [.int .i64 p.head, .ps 2 (p.args.map Tm.aO)]]:=by simp [oi,dh]
 have hB1:oo [(p,t)]=[.agg [.int .i64 t.head, .ps 2 (t.args.map Tm.aO)]]:=by simp [oo,dh]
 refine aK.im (ι:={q:List (Tm×Tm)×List ae×List ae×List Bd // fD q.1 q.2.2.2=g∧bz 0 q.2.1∧bz 0 q.2.2.1∧lK q.1≤p.size∧(∀ x∈q.1,x.1.fit∧x.2.size<99999999)∧(∀ x∈q.2.2.2,x.t.size<99999999)}) 1000
  (fun q=>f_ 86 [(6, .cC),(7, .map 2),(8, .os 3 0 q.1.1.length 2),(9, .os 4 0 q.1.1.length 2)])
  (fun q=>[none,none,some (.map (fF q.1.2.2.2) (gf q.1.2.2.2) false),some (.row (oi q.1.1++q.1.2.1) 0),some (.row (oo q.1.1++q.1.2.2.1) 0)]) (fun q=>lK q.1.1) ⟨([(p,t)],[],[],b),hg,trivial,trivial,by simp [lK],fun x hx=>by rw [aM.1 hx];exact ⟨hp,rR⟩,hb⟩ [] ?_ (fun _=>by simp) ?_
 ·refine jb rfl ?_
  dsimp only
  rw [hA1,hB1]
  simp only [go_sem,iO,cI (iO _).1,cI (iO _).2,bR,cI (bR _),bq]
 ·rintro ⟨⟨s,j1,j2,m⟩,h1,h2,h3,h4,h5,h6⟩
  simp only at h1 h2 h3 h4 h5 h6
  cases s with
  | nil =>
   rw [fD] at h1
   subst h1
   simp only [go_sem,aS]
   refine aK.go 1000 ?_
   simp only [go_sem,mapA]
  | cons x r =>
   obtain ⟨Hh,wC⟩:=h5 x (by simp)
   have Dv:∀ y∈r,y.1.fit∧y.2.size<99999999:=fun y hy=>h5 y (by simp [hy])
   have NU:=L6 r
   rw [lK] at h4
   have yD:=z8 x.1
   have EH:=Fy Hh
   unfold ov at EH
   have r7:IntKind.i64.wrap ((r.length:Int)+1 - 1)=r.length:=by rw [eC (by omega)];omega
   have nq:(0:Int)<r.length+1:=by omega
   have tI:IntKind.i64.wrap (-1 - x.1.head) = -1 - x.1.head:=eC (by omega)
   have hA:oi (x :: r)++j1=oi r++x.1.aO :: j1:=by rw [Vh];simp
   have hB:oo (x :: r)++j2=oo r++x.2.aO :: j2:=by rw [VD];simp
   have Nh:(oi r++x.1.aO :: j1).getD r.length .undef=x.1.aO:=by rw [← Et r];simp [List.getD]
   have Ni:(oo r++x.2.aO :: j2).getD r.length .undef=x.2.aO:=by rw [← Ep r];simp [List.getD]
   have GR:(oi r++x.1.aO :: j1).length=r.length+1+j1.length:=by simp [Et];omega
   have GU:(oo r++x.2.aO :: j2).length=r.length+1+j2.length:=by simp [Ep];omega
   simp only [go_sem,ax,hA,hB,mh,mj,nq,r7]
   refine aK.draw [⟨none,[],[5,6]⟩,⟨none,[],[5,6]⟩,⟨none,[],[5,6]⟩,⟨none,[],[5,6]⟩,⟨none,[],[5,6]⟩,⟨none,[],[5,6]⟩,⟨none,[],[5,6]⟩,⟨none,[],[5,6]⟩,⟨some 5,[5],[6]⟩,⟨some 6,[6],[5]⟩,⟨none,[5],[]⟩,⟨none,[6],[]⟩] 5 7 mixed rfl rfl (by decide) ?_
   simp only [go_sem,dC,GR,GU,Nh,Ni,fJ]
   refine ⟨⟨by omega,by omega⟩,by omega,⟨by omega,by omega⟩,by omega,?_⟩
   refine aK.go 1000 ?_
   refine aK.draw [] 7 7 mixed rfl rfl (by decide) ?_
   simp only [go_sem,dC]
   refine ⟨by omega,by omega,?_⟩
   have hl:∀ n,bz n (oi r++x.1.aO :: j1)∧bz n (oo r++x.2.aO :: j2):=fun n=>⟨sl (of_eq_true (I_ r)) ⟨dH x.1,iC (av _) h2⟩,sl (of_eq_true (I2 r)) ⟨dH x.2,iC (av _) h3⟩⟩
   by_cases hv : 0≤-1 - x.1.head
   ·rw [fD,if_pos hv] at h1
    have pc:=KC m (-1 - x.1.head) (.agg [.int .i64 0, .aU])
    cases hf:m.find? (fun c=>c.v == -1 - x.1.head) with
    | some c =>
     rw [hf] at pc h1
     simp only at h1 pc
     have sV:=h6 c (bJ hf)
     refine aK.go 1000 ?_
     simp only [go_sem,tI,hv,zj,pc,fJ]
     refine aq.bV [] (Ab c.t x.2 (by omega) (by omega)) (by (try simp only [dh]);exact cJ _ _ _) (by simp [go_sem,dH,bR]) ?_;simp only [bP,bY,bX,if_true];refine aK.go 1000 ?_
     by_cases he:c.t=x.2
     ·rw [if_pos he] at h1
      have yy:=RO (x:=.agg [.int .i64 x.2.head, .ps 2 (x.2.args.map Tm.aO)]) (by rw [he,dh]) hf
      simp only [go_sem,he,zj,yy]
      refine ⟨⟨(r,x.1.aO :: j1,x.2.aO :: j2,m),h1,⟨dH x.1,h2⟩,⟨dH x.2,h3⟩,by simp only;omega,Dv,h6⟩,[],jb rfl ?_,by simp only [lK];omega⟩
      have xa:=hl 0
      simp only [go_sem,iO,cI (iO _).1,cI (iO _).2,cI xa.1,cI xa.2,hl]
     ·rw [if_neg he] at h1
      subst h1
      simp only [go_sem,he]
      refine aK.go 1000 ?_
      simp only [go_sem,mapA]
    | none =>
     rw [hf] at pc h1
     simp only at h1 pc
     have yy:=KF (l:=m) (b:=⟨-1 - x.1.head,x.2⟩) (x:=.agg [.int .i64 x.2.head, .ps 2 (x.2.args.map Tm.aO)]) (dh _).symm hf
     refine aK.go 1000 ?_
     simp only [go_sem,tI,hv,zj,pc,fJ,yy]
     refine ⟨⟨(r,x.1.aO :: j1,x.2.aO :: j2,m++[⟨-1 - x.1.head,x.2⟩]),h1,⟨dH x.1,h2⟩,⟨dH x.2,h3⟩,by simp only;omega,Dv,fun y hy=>?_⟩,[],jb rfl ?_,by simp only [lK];omega⟩
     ·rcases aW.1 hy with hy | hy
      ·exact h6 y hy
      ·rw [aM.1 hy];exact wC
     have xa:=hl 0
     simp only [go_sem,iO,cI (iO _).1,cI (iO _).2,cI xa.1,cI xa.2,hl]
   ·rw [fD,if_neg hv] at h1
    by_cases c1:x.1.head=x.2.head
    ·by_cases c2:x.1.args.length=x.2.args.length
     ·rw [if_neg (by simp [c1,c2])] at h1
      have vQ:IntKind.i64.wrap (-1 - x.2.head) = -1 - x.2.head:=by rw [← c1];exact tI
      have wA:¬ 0≤-1 - x.2.head:=by rw [← c1];exact hv
      have c3:(x.1.args.length:Int)=x.2.args.length:=by omega
      refine aK.go 1000 ?_
      simp only [go_sem,vQ,wA,c1,c3,ak]
      refine aK.draw [.no, .no, .no,⟨some 7,[3,7],[]⟩,⟨none,[],[3,7]⟩,⟨none,[],[3,7]⟩,⟨none,[],[3,7]⟩,⟨some 8,[4,8],[]⟩] 7 9 mixed rfl rfl (by decide) ?_
      have N3:(oi r++x.1.aO :: j1).take r.length=oi r:=by rw [← Et r,m9]
      have N4:(oo r++x.2.aO :: j2).take r.length=oo r:=by rw [← Ep r,m9]
      have MW:=qh x.1.args
      have N2:=oM x.1
      simp only [go_sem,dC,GR,GU,N3,N4,ak]
      refine ⟨⟨by omega,by omega,by omega⟩,⟨by omega,by omega,by omega⟩,?_⟩
      refine aK.go 1000 ?_
      simp only [go_sem]
      have JE:=FD x.1 x.2 r
      refine ⟨⟨((x.1.args.zip x.2.args).reverse++r,[],[],m),h1,trivial,trivial,by simp only;omega,fun y hy=>?_,h6⟩,[(3,7),(7,3),(4,8),(8,4)],jb rfl ?_,by simp only [lK];omega⟩
      ·rcases aW.1 hy with hy | hy
       ·have hy:=cU.1 hy
        have a1:=tA (cZ hy).2
        have a2:=oM x.2
        exact ⟨wT (xw Hh) _ (cZ hy).1,by omega⟩
       ·exact Dv y hy
      dsimp only
      rw [U4 c2,U8 c2,show ((x.1.args.zip x.2.args).reverse++r).length=r.length+x.1.args.length by simp [c2];omega]
      have lA:∀ n,bz n (oi r++x.1.args.map Tm.aO):=fun n=>sl (of_eq_true (I_ r)) (bR _)
      have lB:∀ n,bz n (oo r++x.2.args.map Tm.aO):=fun n=>sl (of_eq_true (I2 r)) (bR _)
      have Om:=lA 0
      have On:=lB 0
      simp only [go_sem,iO,cI (iO _).1,cI (iO _).2,cI Om,cI On,lA,lB,bq,c2]
     ·rw [if_pos (.inr c2)] at h1
      have vQ:IntKind.i64.wrap (-1 - x.2.head) = -1 - x.2.head:=by rw [← c1];exact tI
      have wA:¬ 0≤-1 - x.2.head:=by rw [← c1];exact hv
      have c3:¬ (x.1.args.length:Int)=x.2.args.length:=by omega
      subst h1
      refine aK.go 1000 ?_
      simp only [go_sem,vQ,wA,c1,c3,ak]
      refine aK.go 1000 ?_
      simp only [go_sem,mapA]
    ·rw [if_pos (.inl c1)] at h1
     subst h1
     refine aK.go 1000 ?_
     simp only [go_sem,tI,hv,c1]
     refine aK.go 1000 ?_
     simp only [go_sem,mapA]
theorem Xo {Q:Tm→Prop} (ha:∀ t,Q t→∀ u∈t.args,Q u):∀ (S:List (Tm×Tm)) (m:List Bd),(∀ x∈S,Q x.2)→(∀ b∈m,Q b.t)→∀ m',fD S m=some m'→∀ b∈m',Q b.t:=by
 intro S m
 induction S,m using fD.induct with
 | case1 m=>intro _ h m' e;rw [fD] at e;cases e;exact h
 | case2 x r m hv c hf he ih =>
  intro h1 h2 m' e
  rw [fD,if_pos hv,hf] at e
  simp only [if_pos he] at e
  exact ih (fun y hy=>h1 y (by simp [hy])) h2 m' e
 | case3 x r m hv c hf he =>
  intro _ _ m' e
  rw [fD,if_pos hv,hf] at e
  simp only [if_neg he] at e
  cases e
 | case4 x r m hv hf ih =>
  intro h1 h2 m' e
  rw [fD,if_pos hv,hf] at e
  refine ih (fun y hy=>h1 y (by simp [hy])) (fun b hb=>?_) m' e
  rcases aW.1 hb with hb | hb
  ·exact h2 b hb
  ·rw [aM.1 hb];exact h1 x (by simp)
 | case5 x r m hv hc =>
  intro _ _ m' e
  rw [fD,if_neg hv,if_pos hc] at e
  cases e
 | case6 x r m hv hc ih =>
  intro h1 h2 m' e
  rw [fD,if_neg hv,if_neg hc] at e
  refine ih (fun y hy=>?_) h2 m' e
  rcases aW.1 hy with hy | hy
  ·exact ha _ (h1 x (by simp)) _ (cZ (cU.1 hy)).2
  ·exact h1 y (by simp [hy])
def Hy (m:List Bd):Prop:=∀ x∈m,x.t.size<99999999
theorem OO {b m:List Bd} {p t:Tm} (hb:Hy b) (ht:t.size<99999999) (h:lh b p t=some m):Hy m :=
 Xo (Q:=fun t=>t.size<99999999) (fun t h u hu=>by have:=tA hu;have:=oM t;omega) _ _ (fun x hx=>by rw [aM.1 hx];exact ht) hb m h
def vW (l:Li):Prop:=(l.l.fit∧l.l.size<99999999)∧l.r.fit∧l.r.size<99999999
theorem FH:∀ (σ τ:ai),iy σ (σ++τ)
 | [],τ=>by cases τ<;>trivial
 | x :: σ,τ=>⟨.inl rfl,FH σ τ⟩
set_option maxHeartbeats 1000000 in
theorem U6 (b0 b1 b2 b3 b4 b5 b6 b7:Option bE) (b:List Bd) (a l:Li) (D:ae) (F:List Bd→Bool) (hs:bw 8 [b0,b1,b2,b3,b4,b5,b6,b7]) (Wb:D.low 8) (hb:Hy b) (ha:vW a) (hl:vW l)
  (hD:∀ m,Hy m→aq Tryz.prog D [.pm (fF m) (gf m)] [b0,b1,b2,b3,b4,b5,b6,b7] (fun r σ'=>r = .bool (F m)∧σ'=[b0,b1,b2,b3,b4,b5,b6,b7])) :
  aq Tryz.prog (.fn 91 [] []) [.pm (fF b) (gf b),a.aO,l.aO,D] [b0,b1,b2,b3,b4,b5,b6,b7] (fun r σ'=>r = .bool (lN b a l F)∧σ'=[b0,b1,b2,b3,b4,b5,b6,b7]):=by
 have ke:∀ n,8≤n→D.low n∧bw n [b0,b1,b2,b3,b4,b5,b6,b7]:=fun n hn=>⟨m_ hn Wb,nL hn hs⟩
 have ur:=ke 10 (by decide)
 have w5:=ke 11 (by decide)
 have N1:=hs
 simp only [wQ,Fv,and_true] at ur w5 N1
 refine aq.begin (rs:=[.tmp 8]) (m:=52) 1000 Tryz.func91 rfl rfl rfl rfl rfl ?_
 have hend:∀ (z:Bool) (τ:ai),z=lN b a l F→mJ (fun r σ'=>r = .bool (lN b a l F)∧σ'=[b0,b1,b2,b3,b4,b5,b6,b7]) 8 (.bool z) ([b0,b1,b2,b3,b4,b5,b6,b7]++τ):=fun z τ hz=>by
  rw [fY]
  exact ⟨[b0,b1,b2,b3,b4,b5,b6,b7],FH _ _,ah _,hs,trivial,by rw [hz],rfl⟩
 simp only [go_sem,kL]
 refine aK.draw [] 10 10 mixed rfl rfl (by decide) ?_
 simp only [go_sem,dC]
 refine n5 (Ur a) (by simp only [Li.aO,Li.cs];exact cJ _ _ _) (by simp [go_sem,na]) ?_
 simp only [go_sem,dC]
 refine n5 (Ur l) (by simp only [Li.aO,Li.cs];exact cJ _ _ _) (by simp [go_sem,na]) ?_
 have hW:lN b a l F=if la a≠la l then false else kr b a l.l l.r F||kr b a l.r l.l F:=rfl
 obtain ⟨W,Jv⟩:∃ W,lN b a l F=W:=⟨_,rfl⟩
 rw [Jv] at hend hW ⊢
 by_cases hk:la a=la l
 case neg =>
  rw [if_pos hk] at hW
  subst hW
  have qY:(la a==la l)=false:=by simpa using hk
  simp only [go_sem,qY]
  refine aK.go 1000 ?_
  simp only [go_sem]
  exact hend _ _ rfl
 rw [if_neg (fun k=>k hk)] at hW
 have qY:(la a==la l)=true:=by simpa using hk
 simp only [go_sem,qY]
 refine aK.go 1000 ?_
 simp only [go_sem,List.range_zero,bh,bn,aB,aP,fG,dq]
 have NT:∀ i:Nat,i<2→∃ x y:Tm,([ae.agg [.int .i64 l.l.head, .ps 2 (l.l.args.map Tm.aO), .int .i64 l.r.head, .ps 2 (l.r.args.map Tm.aO)], .agg [.int .i64 l.r.head, .ps 2 (l.r.args.map Tm.aO), .int .i64 l.l.head, .ps 2 (l.l.args.map Tm.aO)]]).getD i .undef = .agg [.int .i64 x.head, .ps 2 (x.args.map Tm.aO), .int .i64 y.head, .ps 2 (y.args.map Tm.aO)] ∧
   (if i=0 then kr b a l.l l.r F||kr b a l.r l.l F else if i=1 then kr b a l.r l.l F else false)=(kr b a x y F||if i+1=0 then kr b a l.l l.r F||kr b a l.r l.l F else if i+1=1 then kr b a l.r l.l F else false)∧x.size<99999999∧y.size<99999999:=fun i hi=>by
  rcases (show i=0∨i=1 by omega) with rfl | rfl
  ·exact ⟨l.l,l.r,rfl,by simp,hl.1.2,hl.2.2⟩
  ·exact ⟨l.r,l.l,rfl,by simp,hl.2.2,hl.1.2⟩
 have h0:W=if 0=0 then kr b a l.l l.r F||kr b a l.r l.l F else if 0=1 then kr b a l.r l.l F else false:=hW
 have hRl:([ae.agg [.int .i64 l.l.head, .ps 2 (l.l.args.map Tm.aO), .int .i64 l.r.head, .ps 2 (l.r.args.map Tm.aO)], .agg [.int .i64 l.r.head, .ps 2 (l.r.args.map Tm.aO), .int .i64 l.l.head, .ps 2 (l.l.args.map Tm.aO)]]).length=2:=rfl
 have Jt:∀ n,bz n ([ae.agg [.int .i64 l.l.head, .ps 2 (l.l.args.map Tm.aO), .int .i64 l.r.head, .ps 2 (l.r.args.map Tm.aO)], .agg [.int .i64 l.r.head, .ps 2 (l.r.args.map Tm.aO), .int .i64 l.l.head, .ps 2 (l.l.args.map Tm.aO)]]):=fun n=>by simp [go_sem,bR]
 generalize ([ae.agg [.int .i64 l.l.head, .ps 2 (l.l.args.map Tm.aO), .int .i64 l.r.head, .ps 2 (l.r.args.map Tm.aO)], .agg [.int .i64 l.r.head, .ps 2 (l.r.args.map Tm.aO), .int .i64 l.l.head, .ps 2 (l.l.args.map Tm.aO)]])=R at *
 refine aK.dc (ι:={i:Nat // i≤2∧W=if i=0 then kr b a l.l l.r F||kr b a l.r l.l F else if i=1 then kr b a l.r l.l F else false}) 1000
  (fun q=>f_ 56 [(0, .pm (fF b) (gf b)),(3,D),(5, .ptr 8 0),(8, .bool false),(28, .os 10 0 2 4),(29, .int .i64 2),(30, .int .i64 q.1)])
  (fun _=>[b0,b1,b2,b3,b4,b5,b6,b7,some (.var [.bool a.neg, .int .i64 a.l.head, .ps 2 (a.l.args.map Tm.aO), .int .i64 a.r.head, .ps 2 (a.r.args.map Tm.aO)]),none,some (.row R 0)]) (fun q=>2 - q.1) ⟨0,by decide,h0⟩ ?_ (fun _=>by simp) ?_
 ·simp only [go_sem,wQ,w5,xp,bR,iO,Jt]
  exact ⟨rfl,trivial⟩
 ·rintro ⟨i,hi,aQ⟩
  by_cases bG:(i:Int)<2
  case neg =>
   have dV:i=2:=by omega
   subst dV
   have hWf:false=W:=by rw [aQ];rfl
   simp only [go_sem,bG]
   refine aK.go 1000 ?_
   simp only [go_sem]
   exact hend _ _ hWf
  have aZ:i<2:=by omega
  have hw:IntKind.i64.wrap ((i:Int)+1)=((i+1:Nat):Int):=by rw [eC (by omega)];omega
  obtain ⟨x,y,hx,hr,wC,B0⟩:=NT i aZ
  rw [hr] at aQ
  have oe:kr b a x y F=false→W=if i+1=0 then kr b a l.l l.r F||kr b a l.r l.l F else if i+1=1 then kr b a l.r l.l F else false:=fun h=>by rw [aQ,h,du]
  have zI:kr b a x y F=match lh b a.l x with | none=>false | some m=>match lh m a.r y with | none=>false | some k=>F k:=rfl
  have c1:=U1 b a.l x ha.1.1 ha.1.2 wC hb
  simp only [go_sem,bG,hRl,hx]
  refine ⟨by omega,by omega,by decide,?_⟩
  refine aq.bV [] (c1) (by (try simp only [dh]);exact cJ _ _ _) (by simp [go_sem,dH,bR,iO]) ?_;rw [jj];simp only [ite_self];refine aK.go 1000 ?_
  cases h1:lh b a.l x with
  | none =>
   rw [h1] at zI
   simp only [go_sem,mapA]
   refine ⟨⟨i+1,by omega,oe zI⟩,?_,by simp only;omega⟩
   simp only [go_sem,wQ,w5,xp,bR,iO,Jt,hw]
   trivial
  | some m =>
   have hm:=OO hb wC h1
   rw [h1] at zI
   simp only at zI
   have c2:=U1 m a.r y ha.2.1 ha.2.2 B0 hm
   simp only [go_sem,mapA]
   (repeat ((with_reducible refine And.intro ?_ ?_); ·omega))
   refine aq.bV [] (c2) (by (try simp only [dh]);exact cJ _ _ _) (by simp [go_sem,dH,bR,iO]) ?_;rw [jj];simp only [ite_self];refine aK.go 1000 ?_
   cases h2:lh m a.r y with
   | none =>
    rw [h2] at zI
    simp only [go_sem,mapA]
    refine ⟨⟨i+1,by omega,oe zI⟩,?_,by simp only;omega⟩
    simp only [go_sem,wQ,w5,xp,bR,iO,Jt,hw]
    trivial
   | some k =>
    have eE:=OO hm B0 h2
    rw [h2] at zI
    simp only at zI
    simp only [go_sem,mapA]
    refine aq.tail (σ:=[b0,b1,b2,b3,b4,b5,b6,b7]) (τ:=[some (.var [.bool a.neg, .int .i64 a.l.head, .ps 2 (a.l.args.map Tm.aO), .int .i64 a.r.head, .ps 2 (a.r.args.map Tm.aO)]),none,some (.row R 0),some (.var [.int .i64 x.head, .ps 2 (x.args.map Tm.aO), .int .i64 y.head, .ps 2 (y.args.map Tm.aO)])]) Wb (by simp [go_sem,iO]) hs ((hD k eE).mono ?_)
    rintro r σ' ⟨rfl,rfl⟩
    refine ⟨rfl,?_⟩
    simp only [bn,bh]
    cases hF:F k with
    | true =>
     refine aK.go 1000 ?_
     simp only [go_sem]
     refine aK.go 1000 ?_
     simp only [go_sem]
     exact hend _ _ (by rw [aQ,zI,hF,fU])
    | false =>
     refine aK.go 1000 ?_
     simp only [go_sem]
     refine ⟨⟨i+1,by omega,oe (by rw [zI,hF])⟩,?_,by simp only;omega⟩
     simp only [go_sem,wQ,w5,xp,bR,iO,Jt,hw]
     trivial
def mZ (d:List Li) (us:List Bool):ai:=[some (.row (gC us) 0),some (.var [.ps 5 (lits d), .os 0 0 d.length 1])]
theorem HU (l:List Bool) (i:Nat) (b:Bool):(gC l).set i (.bool b)=gC (l.set i b):=by simp [gC,pA]
theorem EC (d:List Li) (us:List Bool) {n:Nat} (h : 2≤n):bw n (mZ d us):=by
 unfold mZ
 refine ⟨rW us,⟨cz d,show 0<n by omega,trivial⟩,trivial⟩
section
variable {P:Program} {lo:Ctx} {Q:cb→St→Prop} {k:List KI} {ops:Array Oper} {l:List Oper} {fs:List Fp} {tm:List ae} {σ m:ai}
theorem Tz {d:Option Tmp} {f:ae} {args:List ae} {wr:List Nat} (r:ae) (hc:aq P f args m (fun r' σ'=>r'=r∧σ'=m)) (h:iD P lo Q k ops l fs (put tm d r) (dG wr 0 m σ)):sr P lo Q k ops wr d l fs tm σ m f args :=
 ⟨r,m,hc,zW wr m 0,h⟩
end
theorem Ymf (d:List Li) (a:Li) (c:List Li) (us:List Bool) (b:List Bd) (o:Option bE) (z:Bool) (ho:jw 8 o) (gU:c.length<1000000)
  (hA:aq Tryz.prog (.fn 55 [] []) [.ptr 1 0, .ps 5 (lits c), .pm (fF b) (gf b)] (mZ d us) (fun r σ'=>r = .bool z∧σ'=mZ d us)) :
  aq Tryz.prog (.fn 92 [] [.ptr 2 0, .ptr 3 0]) [.pm (fF b) (gf b)] [some (.row (gC us) 0),some (.var [.ps 5 (lits d), .os 0 0 d.length 1]),some (.var [.ptr 1 0]),some (.var [.ps 5 (lits (a :: c))]),o,none,none,none]
   (fun r σ'=>r = .bool z∧σ'=[some (.row (gC us) 0),some (.var [.ps 5 (lits d), .os 0 0 d.length 1]),some (.var [.ptr 1 0]),some (.var [.ps 5 (lits (a :: c))]),o,none,none,none]):=by
 refine aq.begin (rs:=[.tmp 4]) (m:=7) 1000 Tryz.func92 rfl rfl rfl rfl rfl ?_
 have yF:List.drop 1 (lits (a :: c))=lits c:=rfl
 simp only [go_sem]
 refine aK.draw [] 8 8 mixed rfl rfl (by decide) ?_
 simp only [go_sem,dC,gj,ax,yF]
 have sC:List.take (c.length+1 - 1) (lits c)=lits c:=bd (by rw [gj];omega)
 rw [sC]
 (repeat ((with_reducible refine And.intro ?_ ?_); ·omega))
 refine Tz (.bool z) ?_ ?_
 ·refine aq.tail (σ:=mZ d us) (τ:=[some (.var [.ptr 1 0]),some (.var [.ps 5 (lits (a :: c))]),o,none,none,none]) ⟨trivial,trivial⟩ ⟨jq,cz _,⟨(iO b).1,(iO b).2⟩ ,trivial⟩ (EC d us (ah _)) (hA.mono ?_)
  rintro r σ' ⟨rfl,rfl⟩
  exact ⟨rfl,rfl,rfl⟩
 simp only [go_sem]
 refine aK.go 1000 ?_
 simp only [go_sem]
 rw [fY]
 exact ⟨_,fN _,ah _,by simp [go_sem,rW,cz,wQ,xp,ho];trivial,trivial,rfl,rfl⟩
set_option maxHeartbeats 1000000 in
theorem Mf (d:List Li) (hd:∀ l∈d,vW l) (ym:d.length<1000000):∀ (c:List Li) (us:List Bool) (b:List Bd),us.length=d.length→(∀ a∈c,vW a)→c.length<1000000→Hy b →
  aq Tryz.prog (.fn 55 [] []) [.ptr 1 0, .ps 5 (lits c), .pm (fF b) (gf b)] (mZ d us) (fun r σ'=>r = .bool (ml d c us b)∧σ'=mZ d us)
 | [],us,b,hu,hc,gU,hb=>by
  unfold mZ
  refine aq.begin (rs:=[.tmp 6]) (m:=57) 1000 Tryz.func55 rfl rfl rfl rfl rfl ?_
  simp only [go_sem,gj,aS]
  rw [fY]
  exact ⟨mZ d us,FH (mZ d us) _,ah _,EC d us (ah _),trivial,by rw [ml],rfl⟩
 | a :: c,us,b,hu,hc,gU,hb=>by
  unfold mZ
  refine aq.begin (rs:=[.tmp 6]) (m:=57) 1000 Tryz.func55 rfl rfl rfl rfl rfl ?_
  have ep:¬ ((c.length+1:Nat):Int)=0:=by omega
  obtain ⟨W,hW⟩:∃ W,ml d (a :: c) us b=W:=⟨_,rfl⟩
  rw [hW]
  have hend:∀ (z:Bool) (E5:List Bool) (τ:ai),z=W→E5=us→mJ (fun r σ'=>r = .bool W∧σ'=mZ d us) 2 (.bool z) (mZ d E5++τ):=fun z E5 τ hz hu=>by
   rw [fY,hz,hu]
   exact ⟨mZ d us,FH _ _,ah _,EC d us (ah _),trivial,rfl,rfl⟩
  unfold mZ at hend
  have yo:∀ τ:ai,(some (.row (gC us) 0)) :: (some (.var [.ps 5 (lits d), .os 0 0 d.length 1])) :: τ=mZ d us++τ:=fun τ=>rfl
  rw [ml] at hW
  obtain ⟨f,hf⟩:∃ f:Nat→Bool,(fun k=>!us.getD k false&&decide ((d.getD k jd).neg=a.neg)&&lN b a (d.getD k jd) fun m=>ml d c (us.set k true) m)=f:=⟨_,rfl⟩
  rw [hf] at hW
  have hak:=hc a (by simp)
  simp only [go_sem,gj,ax,ep]
  refine aK.dc (ι:={k:Nat // k≤d.length∧((List.range d.length).drop k).any f=W}) 1000
   (fun q=>f_ 60 [(2, .pm (fF b) (gf b)),(3, .ptr 2 0),(4, .ptr 3 0),(6, .bool false),(16, .ps 5 (lits d)),(17, .int .i64 d.length),(18, .int .i64 q.1)])
   (fun _=>[some (.row (gC us) 0),some (.var [.ps 5 (lits d), .os 0 0 d.length 1]),some (.var [.ptr 1 0]),some (.var [.ps 5 (lits (a :: c))])]) (fun q=>d.length - q.1) ⟨0,av _,by simpa using hW⟩ ?_ (fun _=>by simp) ?_
  ·simp only [go_sem,rW,cz,iO]
  ·rintro ⟨k,hk,aQ⟩
   by_cases bG:(k:Int)<d.length
   case neg =>
    have dV:k=d.length:=by omega
    subst dV
    rw [pz (by simp),mR] at aQ
    simp only [go_sem,bG]
    refine aK.go 1000 ?_
    simp only [go_sem]
    exact hend _ us [some (.var [.ptr 1 0]),some (.var [.ps 5 (lits (a :: c))])] aQ rfl
   have aZ:k<d.length:=by omega
   have hw:IntKind.i64.wrap ((k:Int)+1)=((k+1:Nat):Int):=by rw [eC (by omega)];omega
   have g1:=tV aZ
   have g2:=Iv (l:=us) (i:=k) (by omega)
   have g3:(lits (a :: c)).getD 0 .undef=a.aO:=rfl
   have gd:d.getD k jd=d[k]:=by simp [List.getD,aZ]
   have M8:=hd _ (aE aZ)
   rw [ao (by simpa using aZ),eh,mY] at aQ
   have vF:f k=(!us.getD k false&&decide (d[k].neg=a.neg)&&lN b a d[k] fun m=>ml d c (us.set k true) m):=by rw [← hf];simp only [gd]
   generalize d[k]=l at *
   simp only [go_sem,bG,gj,g1,kL]
   refine ⟨by omega,?_⟩
   have xe:(k:Int)<us.length:=by omega
   have ES:f k=false→(List.drop (k+1) (List.range d.length)).any f=W:=fun h=>by rw [h,du] at aQ;exact aQ
   refine aK.draw [] 5 5 mixed rfl rfl (by decide) ?_
   cases yI:us.getD k false with
   | true =>
    rw [yI] at g2 vF
    simp only [go_sem,dC,g2,Cl,hu,g3,kL,bG]
    (repeat ((with_reducible refine And.intro ?_ ?_); ·omega))
    refine aK.go 1000 ?_
    simp only [go_sem]
    refine ⟨⟨k+1,by omega,ES (by rw [vF];simp)⟩,?_,by simp only;omega⟩
    simp only [go_sem,rW,cz,iO,hw]
   | false =>
    rw [yI] at g2 vF
    cases ff:(l.neg==a.neg) with
    | false =>
     have AU:decide (l.neg=a.neg)=false:=by simpa using ff
     simp only [go_sem,dC,g2,Cl,hu,g3,kL,bG,ff,gj,ax]
     (repeat ((with_reducible refine And.intro ?_ ?_); ·omega))
     refine aK.go 1000 ?_
     simp only [go_sem]
     refine ⟨⟨k+1,by omega,ES (by rw [vF,AU];simp)⟩,?_,by simp only;omega⟩
     simp only [go_sem,rW,cz,iO,hw]
    | true =>
     have AU:decide (l.neg=a.neg)=true:=by simpa using ff
     rw [AU] at vF
     simp only [Bool.not_false,cy] at vF
     simp only [go_sem,dC,g2,Cl,hu,g3,kL,bG,ff,gj,ax]
     (repeat ((with_reducible refine And.intro ?_ ?_); ·omega))
     refine aK.go 1000 ?_
     simp only [go_sem,Cl,hu,g2,HU]
     have yJ:(us.set k true).length=d.length:=by rw [bg];exact hu
     have qU:(us.set k true).set k false=us:=by
      rw [List.set_set]
      refine List.ext_getElem (by simp) fun i h1 h2=>?_
      rw [List.getElem_set]
      split
      ·rename_i e;subst e;simpa [List.getD,h2] using yI.symm
      ·rfl
     have Gp:=U6 (some (.row (gC (us.set k true)) 0)) (some (.var [.ps 5 (lits d), .os 0 0 d.length 1])) (some (.var [.ptr 1 0])) (some (.var [.ps 5 (lits (a :: c))])) (some (.var [.bool l.neg, .int .i64 l.l.head, .ps 2 (l.l.args.map Tm.aO), .int .i64 l.r.head, .ps 2 (l.r.args.map Tm.aO)])) none none none b a l (.fn 92 [] [.ptr 2 0, .ptr 3 0]) (fun m=>ml d c (us.set k true) m)
      (by simp [go_sem,rW,cz,bR]) (by simp [go_sem]) hb hak M8 (fun m hm=>Ymf d a c _ m (some (.var [.bool l.neg, .int .i64 l.l.head, .ps 2 (l.l.args.map Tm.aO), .int .i64 l.r.head, .ps 2 (l.r.args.map Tm.aO)])) _ (by simp [go_sem,bR,xp]) (by simp only [ax] at gU;omega) (Mf d hd ym c (us.set k true) m yJ (fun x hx=>hc x (by simp [hx])) (by simp only [ax] at gU;omega) hm))
     rw [← vF] at Gp
     have g4:(gC (us.set k true)).getD k .undef = .bool true:=by rw [Iv (by omega)];simp [List.getD,show k<us.length by omega]
     generalize us.set k true=B_ at *
     refine ⟨by omega,by omega,?_⟩
     refine aK.draw [] 5 5 mixed rfl rfl (by decide) ?_
     simp only [go_sem,dC,g3,kL,gj,ax]
     (repeat ((with_reducible refine And.intro ?_ ?_); ·omega))
     refine Tz (.bool (f k)) (aq.pad 3 ?_) ?_
     ·have e1:∀ x:Li,ae.agg [.bool x.neg, .int .i64 x.l.head, .ps 2 (x.l.args.map Tm.aO), .int .i64 x.r.head, .ps 2 (x.r.args.map Tm.aO)]=x.aO:=fun _=>rfl
      simp only [e1]
      refine Gp.mono ?_
      rintro r σ' ⟨rfl,rfl⟩
      rw [fY]
      exact ⟨_,FH [_,_,_,_,_] [none,none,none],ah _,by simp [go_sem,rW,cz,bR],trivial,rfl,rfl⟩
     simp only [go_sem]
     refine aK.go 1000 ?_
     simp only [go_sem,Cl,yJ,g4,HU,qU]
     (repeat ((with_reducible refine And.intro ?_ ?_); ·omega))
     refine ⟨fun C7=>?_,fun C7=>?_⟩
     ·refine aK.go 1000 ?_
      simp only [go_sem]
      exact hend _ us [some (.var [.ptr 1 0]),some (.var [.ps 5 (lits (a :: c))]),some (.var [.bool l.neg, .int .i64 l.l.head, .ps 2 (l.l.args.map Tm.aO), .int .i64 l.r.head, .ps 2 (l.r.args.map Tm.aO)])] (by rw [← aQ,C7,fU]) rfl
     ·refine ⟨⟨k+1,by omega,ES C7⟩,?_,by simp only;omega⟩
      simp only [go_sem,rW,cz,iO,hw]
def lT (c:List Li):Prop:=(∀ l∈c,vW l)∧c.length<1000000
theorem Jf {c:List Li} (h:lT c):DS c:=⟨fun l hl=>by
 obtain ⟨⟨_,a⟩,_,b⟩:=h.1 l hl
 exact ⟨by omega,by omega⟩,by have:=h.2;omega⟩
theorem RL (d:List Li):List.replicate d.length (ae.bool false)=gC (gF d):=ZD _
set_option maxHeartbeats 1000000 in
theorem Yl1 (c d:List Li) (hc:lT c) (hd:lT d):aJ Tryz.prog 21 [.ps 5 (lits c), .ps 5 (lits d)] (.dA [.bool (oq c d).1, .int .i64 (oq c d).2]):=by
 refine aJ.begin (rs:=[.tmp 4, .tmp 5]) (m:=28) 1000 Tryz.func21 rfl rfl rfl (by decide) ⟨trivial,trivial,trivial⟩ ?_
 have hW:=S5 [c,d] (fun x hx=>by
  simp only [aR,dR,or_false] at hx
  rcases hx with rfl | rfl
  ·exact Jf hc
  ·exact Jf hd) (by simp)
 rw [VU] at hW
 have hF:oq c d=if jH c d≠0 then (false,jH c d) else (rE c d,0):=rfl
 rw [hF]
 simp only [go_sem]
 refine aq.bV [0] hW ?_ (by simp [go_sem,fy]) ?_
 ·simp only [go_sem,da,aB,aP]
 simp only [bP,bY,bX,if_true]
 refine aK.go 1000 ?_
 by_cases h0:jH c d=0
 case neg =>
  rw [if_pos h0]
  simp only [go_sem,h0]
 rw [if_neg (fun k=>k h0)]
 unfold rE
 by_cases hl:d.length<c.length
 ·have h1:(d.length:Int)<c.length:=by omega
  have h2:decide (c.length≤d.length)=false:=by simp;omega
  rw [h2]
  simp only [go_sem,h0,gj,h1]
 have h1:¬ (d.length:Int)<c.length:=by omega
 have h2:decide (c.length≤d.length)=true:=by simp;omega
 rw [h2,cy]
 have ym:=hd.2
 simp only [go_sem,h0,gj,h1,RL]
 refine ⟨by omega,?_⟩
 refine aq.Az (q:=3) rfl ?_
 simp only [go_sem,aB,aP,cW,c_]
 have hI:∀ b,b<2→b=0∨b=1:=fun b hb=>by omega
 refine aq.mw (Z:=mZ d (gF d)) (f:=.fn 55 [] []) (args:=[.ptr 1 0, .ps 5 (lits c), .pm (fF []) (gf [])]) (fun b=>b+1) (fun b b' h1 h2 e=>by omega) (fun b hb=>by have:b<2:=hb;simp;omega) (fun b hb=>?_) ⟨trivial,trivial⟩ rfl ⟨jq,cz _,⟨trivial,trivial⟩,trivial⟩ ?_ (EC d _ (ah _))
  (Mf d hd.1 hd.2 c (gF d) [] (by simp [gF]) hc.1 hc.2 (fun x hx=>by cases hx)) ?_
 ·rcases hI b hb with rfl | rfl
  ·exact ⟨_,rfl,by simp [go_sem,cI (rW _)]⟩
  ·exact ⟨_,rfl,by simp [go_sem,cI (cz _)]⟩
 ·simp [go_sem,cI (cz _),fF,gf]
 ·rintro r Z' ⟨rfl,rfl⟩
  refine ⟨ah _,EC d _ (ah _),trivial,?_⟩
  simp only [go_sem,mZ,jX,fv,nj,aB,aP,cI (rW _),cI (cz _)]
  refine aK.go 1000 ?_
  simp only [go_sem]
end Go.Proofs
namespace Go.c8
open Go
section
variable {P:Program} {lo:Ctx} {Q:cb→St→Prop} {tm:List ae} {σ:ai}
theorem Ylp {X:Nat→Nat→Prop} {base mb:Nat} {D:List Deferred} {β:Env} {a:Act} {w:World} (bs:List Nat) (i:Nat) (t:ae) (hi:i<tm.length) (hp:pT (among bs) σ t (tm.getD i .undef)) (h3:Rel X base mb D ⟨tm,σ⟩ β a w) :
  Rel X base mb D ⟨tm.set i t,fZ (among bs) 0 σ⟩ β a w:=by
 have od:=zX (among bs) σ
 have xC:=h3.s.oH od.oH
 obtain ⟨_,e2⟩:=tU xC od [t] (cm:=[tm.getD i .undef]) (by rw [FE];exact ⟨hp,by rw [PF];trivial⟩)
 refine ⟨xC,by simpa using h3.n,fun k hk=>?_,h3.d⟩
 have hr:=(h3.t k (by simpa using hk)).mono (Bo od.oH) (fun _ _ h=>h)
 by_cases e:i=k
 ·subst e
  have:=(e2 0 (by simp)).1 _ hr
  simpa [List.getD,hi] using this
 ·simpa [List.getD,dX,e] using hr
theorem Yn7 {n:Nat} {β β':Env} {w w':World} {σ':ai} (bs:List Nat) (g3:Ext n (fZ (among bs) 0 σ) β w σ' β' w'):Ext n σ β w σ' β' w':=by
 have hf:=(zX (among bs) σ).oH
 exact ⟨g3.os,g3.tape,g3.output,g3.size,fun g o v hc hn=>g3.cell g o v hc fun hm=>hn (hm.oH hf),fun g hg hn=>g3.block g hg fun o hm=>hn o (hm.oH hf),fun g o hm=>(g3.iL g o hm).imp (fun h=>h.oH hf) id,g3.env⟩
theorem aK.tell {all:Array Oper} {l:List Oper} {k:List KI} (bs:List Nat) (i:Nat) (t:ae) (hi:i<tm.length) (hp:pT (among bs) σ t (tm.getD i .undef)) (he:aK P lo Q (.ops all l :: k) .normal ⟨tm.set i t,fZ (among bs) 0 σ⟩):aK P lo Q (.ops all l :: k) .normal ⟨tm,σ⟩:=by
 simp only [aK] at he ⊢
 refine fun hs=>?_
 intro X base mb D β a w b k cs h1 h2 h3
 obtain ⟨e1,kp,eX,a1,w1,q,g1,g2,g3,g4⟩:=(he hs) X base mb D β a w b k cs (by simpa [IE] using h1) h2 (Ylp bs i t hi hp h3)
 exact ⟨e1,kp,eX,a1,w1,q,g1,g2,Yn7 bs g3,g4⟩
end
end Go.c8
namespace Go.Proofs
open Go Go.c8
attribute [local go_sem] Nat.reduceAdd Nat.reduceSub Nat.reduceMul Nat.reduceLeDiff Nat.reduceEqDiff Nat.reduceBEq Nat.reduceLT Nat.le_refl Int.natCast_zero Nat.sub_zero List.length_map Int.toNat_natCast Int.natCast_one Int.reduceEq Int.reduceLT Int.reduceLE Int.reduceNe Int.sub_zero Int.zero_add Int.toNat_one
theorem Yrm (d c:List Li) (us:List Bool) (b:List Bd) (o4 o5:Option bE) (z:Bool) (h4:jw 8 o4) (h5:jw 8 o5)
  (hA:aq Tryz.prog (.fn 55 [] []) [.ptr 1 0, .ps 5 (lits c), .pm (fF b) (gf b)] (mZ d us) (fun r σ'=>r = .bool z∧σ'=mZ d us)) :
  aq Tryz.prog (.fn 111 [] [.ptr 2 0, .ptr 3 0]) [.pm (fF b) (gf b)] [some (.row (gC us) 0),some (.var [.ps 5 (lits d), .os 0 0 d.length 1]),some (.var [.ptr 1 0]),some (.var [.ps 5 (lits c)]),o4,o5,none,none]
   (fun r σ'=>r = .bool z∧σ'=[some (.row (gC us) 0),some (.var [.ps 5 (lits d), .os 0 0 d.length 1]),some (.var [.ptr 1 0]),some (.var [.ps 5 (lits c)]),o4,o5,none,none]):=by
 refine aq.begin (rs:=[.tmp 4]) (m:=6) 1000 Tryz.func111 rfl rfl rfl rfl rfl ?_
 simp only [go_sem]
 refine aq.tail (σ:=mZ d us) (τ:=[some (.var [.ptr 1 0]),some (.var [.ps 5 (lits c)]),o4,o5,none,none]) ⟨trivial,trivial⟩ ⟨jq,cz _,⟨(iO b).1,(iO b).2⟩,trivial⟩ (EC d us (ah _)) (hA.mono ?_)
 rintro r σ' ⟨rfl,rfl⟩
 refine ⟨rfl,?_⟩
 simp only [mZ,bn,bh]
 refine aK.go 1000 ?_
 simp only [go_sem]
 rw [fY]
 exact ⟨_,fN _,ah _,by simp [go_sem,rW,cz,wQ,xp,h4,h5];trivial,trivial,rfl,rfl⟩
set_option maxHeartbeats 2000000 in
theorem Yqz (c d:List Li) (hc:lT c) (hd:lT d):aJ Tryz.prog 70 [.ps 5 (lits c), .ps 5 (lits d)] (.dA [.int .i64 (mr c d).1, .bool (mr c d).2.1, .int .i64 (mr c d).2.2]):=by
 refine aJ.begin (rs:=[.tmp 4, .tmp 5, .tmp 6]) (m:=72) 1000 Tryz.func70 rfl rfl rfl (by decide) ⟨trivial,trivial,trivial,trivial⟩ ?_
 have hW:=S5 [c,d] (fun x hx=>by
  simp only [aR,dR,or_false] at hx
  rcases hx with rfl | rfl
  ·exact Jf hc
  ·exact Jf hd) (by simp)
 rw [VU] at hW
 have hF:mr c d=if jH c d≠0 then (0,false,jH c d) else match qP c d with | some k=>((k:Int),true,0) | none=>(0,false,0):=rfl
 rw [hF]
 simp only [go_sem]
 refine aq.bV [0] hW ?_ (by simp [go_sem,fy]) ?_
 ·simp only [go_sem,da,aB,aP]
 simp only [bP,bY,bX,if_true]
 refine aK.go 1000 ?_
 by_cases h0:jH c d=0
 case neg =>
  rw [if_pos h0]
  simp only [go_sem,h0]
 rw [if_neg (fun k=>k h0)]
 have ym:=hd.2
 have gU:=hc.2
 obtain ⟨p,hp⟩:∃ p:Nat→Bool,(fun k=>(List.range c.length).any fun i=>cutAt c d k i)=p:=⟨_,rfl⟩
 have hB:qP c d=(List.range d.length).find? p:=by unfold qP;rw [hp]
 rw [hB]
 obtain ⟨W,Jv⟩:∃ W,(List.range d.length).find? p=W:=⟨_,rfl⟩
 rw [Jv]
 have AW:(gF d).length=d.length:=by simp [gF]
 simp only [go_sem,h0,gj,RL]
 refine ⟨by omega,?_⟩
 refine aK.dc (ι:={k:Nat // k≤d.length∧((List.range d.length).drop k).find? p=W}) 1000
  (fun q=>f_ 74 [(0, .ps 5 (lits c)),(8, .ptr 3 0),(27, .ps 5 (lits d)),(28, .int .i64 d.length),(29, .int .i64 q.1)])
  (fun _=>[none,some (.row (gC (gF d)) 0),some (.var [.ps 5 (lits d), .os 1 0 d.length 1]),some (.var [.ptr 2 0])]) (fun q=>d.length - q.1) ⟨0,av _,by simpa using Jv⟩ ?_ (fun _=>by simp) ?_
 ·simp only [go_sem,rW,cz]
 ·rintro ⟨k,hk,aQ⟩
  by_cases bG:(k:Int)<d.length
  case neg =>
   have dV:k=d.length:=by omega
   subst dV
   rw [pz (by simp),List.find?_nil] at aQ
   subst aQ
   simp only [go_sem,bG]
   refine aK.go 1000 ?_
   simp only [go_sem]
  have aZ:k<d.length:=by omega
  have hw:IntKind.i64.wrap ((k:Int)+1)=((k+1:Nat):Int):=by rw [eC (by omega)];omega
  have g1:=tV aZ
  have gd:d.getD k jd=d[k]:=by simp [List.getD,aZ]
  have M8:=hd.1 _ (aE aZ)
  rw [ao (by simpa using aZ),gK,mY] at aQ
  have WN:p k=(List.range c.length).any fun i=>cutAt c d k i:=by rw [← hp]
  have M3:∀ i,cutAt c d k i=(decide ((c.getD i jd).neg≠d[k].neg)&&lN [] (c.getD i jd) d[k] fun m=>ml d (c.eraseIdx i) ((gF d).set k true) m):=fun i=>by unfold cutAt;rw [gd]
  have g2:(gC (gF d)).getD k .undef = .bool false:=by rw [Iv (by omega)];simp [gF,List.getD,aZ]
  have xe:(k:Int)<(gF d).length:=by omega
  have yJ:((gF d).set k true).length=d.length:=by rw [bg];exact AW
  have g4:(gC ((gF d).set k true)).getD k .undef = .bool true:=by rw [Iv (by omega)];simp [List.getD,AW,aZ]
  have qU:((gF d).set k true).set k false=gF d:=by
   rw [List.set_set]
   refine List.ext_getElem (by simp) fun i h1 h2=>?_
   rw [List.getElem_set]
   split
   ·simp [gF]
   ·rfl
  generalize d[k]=l at *
  simp only [go_sem,bG,gj,g1,kL,Cl,AW,g2,HU]
  (repeat ((with_reducible refine And.intro ?_ ?_); ·omega))
  obtain ⟨V,hV⟩:∃ V,p k=V:=⟨_,rfl⟩
  rw [hV] at aQ WN
  generalize (gF d).set k true=B_ at *
  refine aK.dc (ι:={i:Nat // i≤c.length∧((List.range c.length).drop i).any (cutAt c d k)=V}) 1000
   (fun q=>f_ 74 [(0, .ps 5 (lits c)),(8, .ptr 3 0),(9, .int .i64 k),(10, .ptr 4 0),(27, .ps 5 (lits d)),(28, .int .i64 d.length),(29, .int .i64 k),(40, .ps 5 (lits c)),(41, .int .i64 c.length),(42, .int .i64 q.1)])
   (fun _=>[none,some (.row (gC B_) 0),some (.var [.ps 5 (lits d), .os 1 0 d.length 1]),some (.var [.ptr 2 0]),some (.var [.bool l.neg, .int .i64 l.l.head, .ps 2 (l.l.args.map Tm.aO), .int .i64 l.r.head, .ps 2 (l.r.args.map Tm.aO)])]) (fun q=>c.length - q.1) ⟨0,av _,by simpa using WN.symm⟩ ?_ (fun _=>by simp) ?_
  ·simp only [go_sem,rW,cz,bR]
  ·rintro ⟨i,hi,fE⟩
   by_cases zD:(i:Int)<c.length
   case neg =>
    have dV:i=c.length:=by omega
    subst dV
    rw [pz (by simp),mR] at fE
    rw [← fE] at aQ
    simp only [go_sem,zD]
    refine aK.go 1000 ?_
    simp only [go_sem,Cl,yJ,g4,HU,qU]
    (repeat ((with_reducible refine And.intro ?_ ?_); ·omega))
    refine ⟨⟨k+1,by omega,aQ⟩,?_,by simp only;omega⟩
    simp only [go_sem,rW,cz,hw]
   have vJ:i<c.length:=by omega
   have DE:IntKind.i64.wrap ((i:Int)+1)=((i+1:Nat):Int):=by rw [eC (by omega)];omega
   have gc1:=tV vJ
   have gcd:c.getD i jd=c[i]:=by simp [List.getD,vJ]
   have BJ:=hc.1 _ (aE vJ)
   rw [ao (by simpa using vJ),eh,mY,M3,gcd] at fE
   generalize c[i]=a at *
   have ep:c≠[]:=by rintro rfl;simp at vJ
   simp only [go_sem,zD,gj,gc1,kL,DE]
   (repeat ((with_reducible refine And.intro ?_ ?_); ·omega))
   refine aq.td [] (HV c ep (by omega)) (cJ _ _ _) ⟨cz _,trivial⟩ ?_
   rw [jj]
   simp only [Af,Ah,Ak,xv,Am,up,cI (cz _)]
   refine aK.go 1000 ?_
   simp only [go_sem,bn,bh,DE]
   refine aq.Ar (f:=.fn 71 [] []) (args:=[.os 0 0 c.length 5, .int .i64 i, .int .i64 ((i+1:Nat):Int)]) (B:=.row (lits c) 0) 7 rfl (cz _) ⟨trivial,trivial⟩ ⟨cq,trivial,trivial,trivial⟩ ((Kw c i vJ (by omega)).mono ?_)
   rintro r σ' ⟨rfl,rfl⟩
   refine ⟨cq,_,rfl,cz _,?_⟩
   have Nb:c.take i++c.drop (i+1)=c.eraseIdx i:=(List.eraseIdx_eq_take_drop_succ c i).symm
   have je:(c.eraseIdx i).length=c.length - 1:=m0 vJ
   rw [Nb]
   simp only [go_sem,cW,c_]
   refine aK.tell [7] 52 (.ps 5 (lits (c.eraseIdx i))) (by simp) ?_ ?_
   ·simp only [go_sem,bC,bm,gj,je]
    rw [bd (by rw [gj,je];exact ah _)]
    exact cJ _ _ _
   simp only [go_sem,cW,c_]
   refine aK.go 1000 ?_
   cases ff:(a.neg==l.neg) with
   | true =>
    have AU:decide (a.neg≠l.neg)=false:=by simpa using ff
    rw [AU,dg,du] at fE
    simp only [go_sem,ff]
    refine ⟨⟨i+1,by omega,fE⟩,?_,by simp only;omega⟩
    simp only [go_sem,rW,cz,bR,DE]
   | false =>
    have AU:decide (a.neg≠l.neg)=true:=by simpa using ff
    rw [AU,cy] at fE
    simp only [go_sem,ff]
    have Gp:=U6 (some (.row (gC B_) 0)) (some (.var [.ps 5 (lits d), .os 0 0 d.length 1])) (some (.var [.ptr 1 0])) (some (.var [.ps 5 (lits (c.eraseIdx i))])) (some (.var [.bool l.neg, .int .i64 l.l.head, .ps 2 (l.l.args.map Tm.aO), .int .i64 l.r.head, .ps 2 (l.r.args.map Tm.aO)])) (some (.var [.bool a.neg, .int .i64 a.l.head, .ps 2 (a.l.args.map Tm.aO), .int .i64 a.r.head, .ps 2 (a.r.args.map Tm.aO)])) none none [] a l (.fn 111 [] [.ptr 2 0, .ptr 3 0]) (fun m=>ml d (c.eraseIdx i) B_ m)
     (by simp [go_sem,rW,cz,bR]) (by simp [go_sem]) (fun x hx=>by cases hx) BJ M8 (fun m hm=>Yrm d (c.eraseIdx i) B_ m _ _ _ (by simp [go_sem,bR,xp]) (by simp [go_sem,bR,xp]) (Mf d hd.1 ym (c.eraseIdx i) B_ m yJ (fun x hx=>hc.1 x (ow hx)) (by omega) hm))
    obtain ⟨z,hz⟩:∃ z,(lN [] a l fun m=>ml d (c.eraseIdx i) B_ m)=z:=⟨_,rfl⟩
    rw [hz] at Gp fE
    have hI:∀ b,b<8→b=0∨b=1∨b=2∨b=3∨b=4∨b=5∨b=6∨b=7:=fun b hb=>by omega
    refine aq.Az (q:=9) rfl ?_
    have e1:∀ x:Li,ae.agg [.bool x.neg, .int .i64 x.l.head, .ps 2 (x.l.args.map Tm.aO), .int .i64 x.r.head, .ps 2 (x.r.args.map Tm.aO)]=x.aO:=fun _=>rfl
    simp only [go_sem,aB,aP,cW,c_]
    simp only [e1]
    refine aq.mw (Z:=[some (.row (gC B_) 0),some (.var [.ps 5 (lits d), .os 0 0 d.length 1]),some (.var [.ptr 1 0]),some (.var [.ps 5 (lits (c.eraseIdx i))]),some (.var [.bool l.neg, .int .i64 l.l.head, .ps 2 (l.l.args.map Tm.aO), .int .i64 l.r.head, .ps 2 (l.r.args.map Tm.aO)]),some (.var [.bool a.neg, .int .i64 a.l.head, .ps 2 (a.l.args.map Tm.aO), .int .i64 a.r.head, .ps 2 (a.r.args.map Tm.aO)]),none,none]) (f:=.fn 91 [] []) (args:=[.pm (fF []) (gf []),a.aO,l.aO, .fn 111 [] [.ptr 2 0, .ptr 3 0]]) (fun b=>[1,2,3,8,4,5,6,9].getD b 0)
     (fun b b' h1 h2 e=>?_) (fun b hb=>?_) (fun b hb=>?_) ⟨trivial,trivial⟩ rfl ?_ ?_ (by simp [go_sem,rW,cz,bR]) Gp ?_
    ·rcases hI b h1 with rfl | rfl | rfl | rfl | rfl | rfl | rfl | rfl<;>rcases hI b' h2 with rfl | rfl | rfl | rfl | rfl | rfl | rfl | rfl<;>first | rfl | exact absurd e (by decide)
    ·rcases hI b hb with rfl | rfl | rfl | rfl | rfl | rfl | rfl | rfl<;>simp
    ·rcases hI b hb with rfl | rfl | rfl | rfl | rfl | rfl | rfl | rfl<;>exact ⟨_,rfl,by simp [go_sem,cI (rW _),cI (cz _),cI (bR _)]⟩
    ·simp [go_sem,na,iO]
    ·simp [go_sem,fF,gf,Ac (na _)]
    ·rintro r Z' ⟨rfl,rfl⟩
     refine ⟨ah _,by simp [go_sem,rW,cz,bR],trivial,?_⟩
     simp only [go_sem,jX,fv,nj,aB,aP,cI (rW _),cI (cz _),cI (bR _),ax,aS,bC,bm]
     cases z with
     | true =>
      rw [fU] at fE
      rw [← fE] at aQ
      subst aQ
      refine aK.go 1000 ?_
      simp only [go_sem]
      refine aK.go 1000 ?_
      simp only [go_sem]
      refine aK.go 1000 ?_
      simp only [go_sem]
     | false =>
      rw [du] at fE
      refine aK.go 1000 ?_
      simp only [go_sem]
      refine ⟨⟨i+1,by omega,fE⟩,?_,by simp only;omega⟩
      simp only [go_sem,rW,cz,bR,DE]
theorem Zmy (σ:ai) {b:Nat} (c:ae) (p:Li→Bool) (l:List Li) (hb:bH σ b=e9 (lits l)) (hl:l.length<2 ^ 62) (hs:bw σ.length σ) (hc:c.low σ.length)
  (hp:∀ (i:Nat) (h:i<l.length),aq Tryz.prog c [l[i].aO] σ (fun r σ'=>r = .bool (p l[i])∧σ' = σ)) :
  aq Tryz.prog (.fn 63 [] []) [jo b 5 (lits l),c] σ (fun r σ'=>r = .bool (l.any p)∧σ' = σ):=by
 cases l with
 | nil =>
  refine aq.Ms (args':=[.ps 5 (lits []),c]) ?_ (HI σ c p [] hl hs hc hp)
  rw [FE]
  exact ⟨rfl,cJ _ _ _⟩
 | cons a l =>
  have nn:bH σ b=some (.row (lits (a :: l)) 0):=hb
  have yF:jo b 5 (lits (a :: l)) = .os b 0 (a :: l).length 5:=by rw [← gj (a :: l)];rfl
  rw [yF]
  have bG:=Al nn
  refine aq.begin (rs:=[.tmp 4]) (m:=7) 1000 Tryz.func63 rfl rfl rfl rfl rfl ?_
  simp only [go_sem]
  refine (Rl σ c p (a :: l) nn hl hs hc hp).mono ?_
  rintro r σ' ⟨rfl,rfl⟩
  refine aK.go 1000 ?_
  simp only [go_sem]
  rw [fY,Cq p (a :: l) 0 (by omega)];exact ⟨σ',fN σ',ah _,hs,trivial,rfl,rfl⟩
theorem xl {l:Li} (h:vW l):xJ l:=⟨by have:=h.1.2;omega,by have:=h.2.2;omega⟩
theorem RD (l:Li) (h:xJ l):aJ Tryz.prog 66 [l.aO] (.bool (lg l)):=by
 refine aJ.begin (rs:=[.tmp 2]) (m:=7) 1000 Tryz.func66 rfl rfl rfl (by decide) trivial ?_
 have h1:=Ab l.l l.r (by have:=h.1;omega) (by have:=h.2;omega)
 unfold lg
 simp only [go_sem,kL]
 refine aq.bV [] (h1) (by (try simp only [dh]);exact cJ _ _ _) (by simp [go_sem,dH,bR]) ?_;simp only [bP,bY,bX,if_true];refine aK.go 1000 ?_
 simp only [go_sem]
theorem Zrc (a b:Li) (ha:xJ a) (hb:xJ b):aJ Tryz.prog 105 [a.aO,b.aO] (.bool (qq a b)):=by
 refine aJ.begin (rs:=[.tmp 4]) (m:=13) 1000 Tryz.func105 rfl rfl rfl (by decide) trivial ?_
 have h:=SJ a b ha hb
 unfold qq
 cases c:a.neg==b.neg
 ·have hd:decide (a.neg≠b.neg)=true:=by simpa using c
  rw [hd,cy]
  simp only [go_sem,kL,c]
  refine aq.bV [] h (cJ _ _ _) ⟨na _,na _,trivial⟩ ?_
  simp only [bP,bY,bX,if_true]
  refine aK.go 1000 ?_
  simp only [go_sem]
 ·have hd:decide (a.neg≠b.neg)=false:=by simpa using c
  rw [hd,dg]
  simp only [go_sem,kL,c]
theorem Ykh (σ:ai) (b:Nat) (l m:Li) (hb:bH σ b=some (.var l.cs)) (hl:xJ l) (hm:xJ m) :
  aq Tryz.prog (.fn 64 [] [.ptr b 0]) [m.aO] σ (fun r σ'=>r = .bool (ew l m)∧σ' = σ):=by
 have h:aJ Tryz.prog 64 [m.aO, .pp l.cs] (.bool (ew l m)):=by
  refine aJ.begin (rs:=[.tmp 3]) (m:=5) 1000 Tryz.func64 rfl rfl rfl (by decide) trivial ?_
  have h1:=Us l m hl hm
  simp only [go_sem,kL,Li.cs]
  refine aq.bV [] h1 (cJ _ _ _) ⟨na _,na _,trivial⟩ ?_
  simp only [bP,bY,bX,if_true]
  refine aK.go 1000 ?_
  simp only [go_sem,ew]
 refine aq.tb (b:=b) (cs:=l.cs) [] hb h ?_ ⟨na m,na l,trivial⟩ rfl ⟨rfl,rfl⟩
 have h1:tB b l.cs m.aO=m.aO:=rfl
 have h2:tB b l.cs (.ptr b 0) = .pp l.cs:=by simp [tB,yb,Li.cs]
 simp only [bh,bn,aB,aP,h1,h2]
 exact cJ _ _ _
theorem Ym8 (σ:ai) (b:Nat) (l m:Li) (hb:bH σ b=some (.var l.cs)) (hl:xJ l) (hm:xJ m) :
  aq Tryz.prog (.fn 104 [] [.ptr b 0]) [m.aO] σ (fun r σ'=>r = .bool (qq l m)∧σ' = σ):=by
 have h:aJ Tryz.prog 104 [m.aO, .pp l.cs] (.bool (qq l m)):=by
  refine aJ.begin (rs:=[.tmp 3]) (m:=5) 1000 Tryz.func104 rfl rfl rfl (by decide) trivial ?_
  have h1:=Zrc l m hl hm
  simp only [go_sem,kL,Li.cs]
  refine aq.bV [] h1 (cJ _ _ _) ⟨na _,na _,trivial⟩ ?_
  simp only [bP,bY,bX,if_true]
  refine aK.go 1000 ?_
  simp only [go_sem]
 refine aq.tb (b:=b) (cs:=l.cs) [] hb h ?_ ⟨na m,na l,trivial⟩ rfl ⟨rfl,rfl⟩
 have h1:tB b l.cs m.aO=m.aO:=rfl
 have h2:tB b l.cs (.ptr b 0) = .pp l.cs:=by simp [tB,yb,Li.cs]
 simp only [bh,bn,aB,aP,h1,h2]
 exact cJ _ _ _
set_option maxHeartbeats 1000000 in
theorem UB (c:List Li) (hc:lT c):aJ Tryz.prog 29 [.ps 5 (lits c)] (.ps 5 (lits (iq c))):=by
 refine aJ.begin (rs:=[.tmp 2]) (m:=32) 1000 Tryz.func29 rfl rfl rfl (by decide) (cz _) ?_
 have gU:=hc.2
 simp only [go_sem,gj]
 refine aK.im (ι:={q:Nat×List Li // q.1≤c.length∧iu q.2 (c.drop q.1)=iq c∧q.2.length≤q.1∧∀ x∈q.2,vW x}) 1000
  (fun q=>f_ 33 [(3,jo 0 5 (lits q.1.2)),(7, .ps 5 (lits c)),(8, .int .i64 c.length),(9, .int .i64 q.1.1)])
  (fun q=>[e9 (lits q.1.2)]) (fun q=>c.length - q.1.1) ⟨(0,[]),av _,rfl,ah _,fun x hx=>by cases hx⟩ [] ?_ (fun _=>by simp) ?_
 ·refine jb rfl ?_
  simp only [go_sem,cz,cI (cz _),show lits []=[] from rfl,uW,tY]
 ·rintro ⟨⟨i,L⟩,hi,aQ,AE,jI⟩
  simp only at hi aQ AE jI
  by_cases bG:(i:Int)<c.length
  case neg =>
   have dV:i=c.length:=by omega
   subst dV
   rw [aV,iu] at aQ
   simp only [go_sem,bG]
   refine aK.go 1000 ?_
   simp only [go_sem]
   rw [← aQ,sn rfl rfl];trivial
  have aZ:i<c.length:=by omega
  have hw:IntKind.i64.wrap ((i:Int)+1)=((i+1:Nat):Int):=by rw [eC (by omega)];omega
  have g1:=tV aZ
  have BJ:=hc.1 _ (aE aZ)
  rw [ao aZ,iu] at aQ
  generalize c[i]=l at *
  have sV:([.bool l.neg, .int .i64 l.l.head, .ps 2 (l.l.args.map Tm.aO), .int .i64 l.r.head, .ps 2 (l.r.args.map Tm.aO)]:List ae)=l.cs:=rfl
  have hK:=Zmy [e9 (lits L),some (.var l.cs)] (b:=0) (.fn 64 [] [.ptr 1 0]) (fun m=>ew l m) L rfl (by omega) ⟨Aa _ (cz L),na l,trivial⟩ (by simp [go_sem]) (fun j hj=>Ykh _ 1 l L[j] rfl (xl BJ) (xl (jI _ (aE hj))))
  simp only [go_sem,bG,gj,g1,kL]
  refine ⟨by omega,?_⟩
  rw [sV]
  refine hK.mono ?_
  rintro r σ' ⟨rfl,rfl⟩
  rw [← sV]
  obtain ⟨z,hz⟩:∃ z,(L.any fun m=>ew l m)=z:=⟨_,rfl⟩
  rw [hz] at aQ ⊢
  have hT:=RD l (xl BJ)
  have uD:(z||l.neg&&lg l)=true→iu L (c.drop (i+1))=iq c:=fun h=>by rw [if_pos h] at aQ;exact aQ
  have sU:(z||l.neg&&lg l)=false→iu (L++[l]) (c.drop (i+1))=iq c:=fun h=>by rw [if_neg (by rw [h];simp)] at aQ;exact aQ
  clear aQ
  have h2:bH [e9 (lits L),some (bE.var [.bool l.neg, .int .i64 l.l.head, .ps 2 (l.l.args.map Tm.aO), .int .i64 l.r.head, .ps 2 (l.r.args.map Tm.aO)]),some (bE.row [.agg [.bool l.neg, .int .i64 l.l.head, .ps 2 (l.l.args.map Tm.aO), .int .i64 l.r.head, .ps 2 (l.r.args.map Tm.aO)]] 0)] 0=e9 (lits L):=rfl
  have BX:lits [l]=[.agg [.bool l.neg, .int .i64 l.l.head, .ps 2 (l.l.args.map Tm.aO), .int .i64 l.r.head, .ps 2 (l.r.args.map Tm.aO)]]:=rfl
  have nR:=of_eq_true (Mr [l])
  rw [BX] at nR
  have lw:bz 0 (lits (L++[l])):=cz _
  have sZ:lits (L++[l])=lits L++[.agg [.bool l.neg, .int .i64 l.l.head, .ps 2 (l.l.args.map Tm.aO), .int .i64 l.r.head, .ps 2 (l.r.args.map Tm.aO)]]:=by rw [← BX];simp [lits]
  refine aK.go 1000 ?_
  cases z
  case' true =>
   replace uD:=uD rfl
   simp only [go_sem]
  case' false =>
   cases hn:l.neg
   case' false =>
    replace sU:=sU (by rw [hn];rfl)
    rw [hn] at nR sZ h2
    simp only [go_sem,hn,vl h2,nR,gj,hw]
   case' true =>
    have e1:l.aO = .agg [.bool true, .int .i64 l.l.head, .ps 2 (l.l.args.map Tm.aO), .int .i64 l.r.head, .ps 2 (l.r.args.map Tm.aO)]:=by rw [← hn];rfl
    rw [hn] at h2 nR sZ
    simp only [go_sem,hn]
    refine aq.bV [] hT (by rw [e1];exact cJ _ _ _) ⟨na _,trivial⟩ ?_
    simp only [bP,bY,bX,if_true]
    refine aK.go 1000 ?_
    cases ht:lg l
    case' true =>
     replace uD:=uD (by rw [hn,ht];rfl)
     simp only [go_sem]
    case' false =>
     replace sU:=sU (by rw [hn,ht];rfl)
     simp only [go_sem,vl h2,nR,gj,hw]
  all_goals first
  | (refine ⟨⟨(i+1,L),by simp only;omega,uD,by simp only;omega,jI⟩,[],jb rfl ?_,by simp only;omega⟩
     simp only [go_sem,cz,cI (cz _),Il (cz L),hw]
     done)
  | (refine ⟨by omega,⟨(i+1,L++[l]),by simp only;omega,sU,by simp only [ay,ax,aS];omega,fun x hx=>(aW.1 hx).elim (jI x) fun h=>by rw [aM.1 h];exact BJ⟩,[(0,3),(3,0)],jb rfl ?_,by simp only;omega⟩
     dsimp only
     rw [sZ] at lw ⊢
     rw [Fz,FL]
     simp only [go_sem,cz,cI (cz _),cI lw,iC (av _) lw,gj]
     done)
  | trace_state
set_option maxHeartbeats 1000000 in
theorem Ykk (c:List Li) (hc:lT c):aJ Tryz.prog 67 [.ps 5 (lits c)] (.bool (jC c)):=by
 refine aJ.begin (rs:=[.tmp 2]) (m:=28) 1000 Tryz.func67 rfl rfl rfl (by decide) trivial ?_
 have gU:=hc.2
 obtain ⟨W,hW⟩:∃ W,jC c=W:=⟨_,rfl⟩
 rw [hW]
 simp only [go_sem,gj]
 refine aK.dc (ι:={i:Nat // i≤c.length∧mQ (c.take i) (c.drop i)=W}) 1000
  (fun q=>f_ 29 [(0, .ps 5 (lits c)),(2, .bool false),(6, .ps 5 (lits c)),(7, .int .i64 c.length),(8, .int .i64 q.1)])
  (fun _=>[]) (fun q=>c.length - q.1) ⟨0,av _,hW⟩ ?_ (fun _=>av _) ?_
 ·simp only [go_sem,cz]
 ·rintro ⟨i,hi,aQ⟩
  by_cases bG:(i:Int)<c.length
  case neg =>
   have dV:i=c.length:=by omega
   subst dV
   rw [aV,mQ] at aQ
   subst aQ
   simp only [go_sem,bG]
   refine aK.go 1000 ?_
   simp only [go_sem]
  have aZ:i<c.length:=by omega
  have hw:IntKind.i64.wrap ((i:Int)+1)=((i+1:Nat):Int):=by rw [eC (by omega)];omega
  have g1:=tV aZ
  have BJ:=hc.1 _ (aE aZ)
  have sC:c.take (i+1)=c.take i++[c[i]]:=by rw [eO,aA aZ,Option.toList_some]
  rw [ao aZ,mQ,← sC] at aQ
  generalize c[i]=l at *
  have sV:([.bool l.neg, .int .i64 l.l.head, .ps 2 (l.l.args.map Tm.aO), .int .i64 l.r.head, .ps 2 (l.r.args.map Tm.aO)]:List ae)=l.cs:=rfl
  have WS:(lits c).take i=lits (c.take i):=by simp [lits,List.map_take]
  have hK:=HI [some (.var l.cs)] (.fn 104 [] [.ptr 0 0]) (fun m=>qq l m) (c.take i) (by rw [cY];omega) ⟨na l,trivial⟩ (by simp [go_sem]) (fun j hj=>Ym8 _ 0 l (c.take i)[j] rfl (xl BJ) (xl (hc.1 _ (lZ (aE hj)))))
  have hT:=RD l (xl BJ)
  obtain ⟨z,hz⟩:∃ z,((c.take i).any fun m=>qq l m)=z:=⟨_,rfl⟩
  rw [hz] at aQ hK
  simp only [go_sem,bG,gj,g1,kL,WS,dn]
  (repeat ((with_reducible refine And.intro ?_ ?_); ·omega))
  rw [sV]
  refine hK.mono ?_
  rintro r σ' ⟨rfl,rfl⟩
  rw [← sV]
  have yL:(z || !l.neg&&lg l)=true→true=W:=fun h=>by rw [if_pos h] at aQ;exact aQ
  have xc:(z || !l.neg&&lg l)=false→mQ (c.take (i+1)) (c.drop (i+1))=W:=fun h=>by rw [if_neg (by rw [h];simp)] at aQ;exact aQ
  clear aQ
  refine aK.go 1000 ?_
  cases z
  case' true =>
   replace yL:=yL rfl
   simp only [go_sem]
  case' false =>
   cases hn:l.neg
   case' true =>
    replace xc:=xc (by rw [hn];rfl)
    simp only [go_sem,hn]
   case' false =>
    have e1:l.aO = .agg [.bool false, .int .i64 l.l.head, .ps 2 (l.l.args.map Tm.aO), .int .i64 l.r.head, .ps 2 (l.r.args.map Tm.aO)]:=by rw [← hn];rfl
    simp only [go_sem,hn]
    refine aq.bV [] hT (by rw [e1];exact cJ _ _ _) ⟨na _,trivial⟩ ?_
    simp only [bP,bY,bX,if_true]
    refine aK.go 1000 ?_
    cases ht:lg l
    case' true =>
     replace yL:=yL (by rw [hn,ht];rfl)
     simp only [go_sem]
    case' false =>
     replace xc:=xc (by rw [hn,ht];rfl)
     simp only [go_sem]
  all_goals first
  | (refine ⟨⟨i+1,by omega,xc⟩,?_,by simp only;omega⟩
     simp only [go_sem,cz,hw]
     done)
  | (subst yL
     refine aK.go 1000 ?_
     simp only [go_sem]
     done)
  | trace_state
def j6 (S:List Int) (v:Int):List Int:=if v∈S then S else S++[v]
mutual
def Tm.num:Tm→List Int→Tm×List Int
 | .mk h ts,S=>if h<0 then (.mk (-1 - ((j6 S (-1 - h)).idxOf (-1 - h):Int)) [],j6 S (-1 - h)) else (.mk h (Tm.fx ts S).1,(Tm.fx ts S).2)
def Tm.fx:List Tm→List Int→List Tm×List Int
 | [],S=>([],S)
 | t :: ts,S=>((t.num S).1 :: (Tm.fx ts (t.num S).2).1,(Tm.fx ts (t.num S).2).2)
end
def ny (S:List Int):List ae:=S.map (.int .i64 ·)
def rr (S:List Int):List ae:=(List.range S.length).map fun (i:Nat)=>.int .i64 i
def kH (S:List Int):Option bE:=some (.map (ny S) (rr S) false)
def kG:Option bE:=some (.var [.map 0])
theorem Pb (S:List Int) (v:Int):(j6 S v).length≤S.length+1:=by unfold j6;split<;>simp
mutual
theorem L9:∀ (t:Tm) (S:List Int),(t.num S).2.length≤S.length+t.size
 | .mk h ts,S=>by
  rw [Tm.num,Tm.size]
  split
  ·have:=Pb S (-1 - h);simp only;omega
  ·have:=Uq ts S;simp only;omega
theorem Uq:∀ (ts:List Tm) (S:List Int),(Tm.fx ts S).2.length≤S.length+Tm.bF ts
 | [],S=>by simp [Tm.fx]
 | t :: ts,S=>by
  rw [Tm.fx,Tm.bF]
  have:=L9 t S
  have:=Uq ts (t.num S).2
  simp only;omega
end
theorem Uc (S:List Int) (v:Int):(ny S).all (sameKind (.int .i64 v))=true:=by simp [ny,sameKind]
theorem Yl9 (S:List Int):(ny S).length=S.length:=by simp [ny]
theorem KH (v:Int):∀ (S:List Int) (n:Nat),fe (.int .i64 v) (ny S) n=if v∈S then some (n+S.idxOf v) else none
 | [],n=>by simp [ny,fe]
 | b :: S,n=>by
  have ih:=KH v S (n+1)
  simp only [ny,aB,fe] at ih ⊢
  by_cases c:b=v
  ·have hc:fq (.int .i64 v) (.int .i64 b)=true:=by simp [fq,c]
   rw [hc,if_pos rfl,c,List.idxOf_cons_self,if_pos (by simp)];simp
  ·have hc:fq (.int .i64 v) (.int .i64 b)=false:=by simp only [fq,beq_eq_false_iff_ne];exact fun e=>c e.symm
   rw [hc,if_neg (by simp),ih,List.idxOf_cons,show (b==v)=false by simpa using c,cond_false]
   by_cases hm:v∈S
   ·rw [if_pos hm,if_pos (by simp [hm])];congr 1;omega
   ·rw [if_neg hm,if_neg (by simp only [aR,not_or];exact ⟨fun e=>c e.symm,hm⟩)]
theorem Yv (S:List Int) (v:Int) (z:ae):eT (ny S) (rr S) z (.int .i64 v) true=if v∈S then .dA [.int .i64 (S.idxOf v), .bool true] else .dA [z, .bool false]:=by
 unfold eT
 rw [KH]
 by_cases hm:v∈S
 ·have bG:=i_ hm
  rw [if_pos hm,if_pos hm]
  simp only [if_true,rr,List.getD,cf,bp]
  rw [List.getElem?_range bG];rfl
 ·rw [if_neg hm,if_neg hm];rfl
theorem Y5 {S:List Int} {v:Int} (h:v ∉ S):iV (ny S) (rr S) (.int .i64 v) (.int .i64 S.length)=(ny (S++[v]),rr (S++[v])):=by
 unfold iV
 rw [KH,if_neg h]
 simp [ny,rr,List.range_succ]
theorem CA {n:Nat} (S:List Int):bz n (ny S)∧bz n (rr S):=⟨uT fun _ _=>trivial,uT fun _ _=>trivial⟩
theorem Ynu {n:Nat} (S:List Int):jw n (kH S):=CA S
theorem Ykf (S:List Int) (v:Int) (hS:S.length<1000000000):aq Tryz.prog (.fn 113 [] [.ptr 1 0]) [.int .i64 v] [kH S,kG] (fun r σ'=>r = .int .i64 ((j6 S v).idxOf v)∧σ'=[kH (j6 S v),kG]):=by
 refine aq.begin (rs:=[.tmp 3]) (m:=18) 1000 Tryz.func113 rfl rfl rfl rfl rfl ?_
 have pc:=Yv S v (.int .i64 0)
 unfold kH kG j6
 by_cases hm:v∈S
 ·rw [if_pos hm] at pc
  rw [if_pos hm]
  simp only [go_sem,Uc,pc]
  rw [fY]
  exact ⟨_,fN _,by simp,⟨CA S,⟨eo,trivial⟩,trivial⟩,by simp [go_sem],rfl,rfl⟩
 ·rw [if_neg hm] at pc
  rw [if_neg hm]
  have GN:(S++[v]).idxOf v=S.length:=by rw [List.idxOf_append,if_neg hm];simp
  simp only [go_sem,Uc,pc,Yl9,Y5 hm]
  rw [fY]
  exact ⟨_,fN _,by simp,⟨CA _,⟨eo,trivial⟩,trivial⟩,by simp [go_sem],by rw [GN],rfl⟩
theorem aq.CM {P:Program} {σ:ai} {g:FuncId} {fn:Func} {c:Code} {first captured args all:List ae} {K:ae→ai→Prop} {m:Nat} {rs:List ResultVar} (hf:P.funcs[g]? = some fn) (hb:fn.body=some c) (hr:fn.results.toList=rs)
  (e8 : first ++ args ++ captured = all) (hm : fn.ntmps - all.length = m) (eI : (fn.name == "runtime.NumGoroutine") = false)
  (h:aK P ⟨σ.length,none⟩ (qv P rs (za K σ.length)) [.code c] .normal ⟨all++List.replicate m .undef,σ⟩):aq P (.fn g first captured) args σ K:=by
 subst hr hm
 exact aq.sh (by rw [e8];exact bT.tree (bT.body hf hb eI h))
theorem QI {K:ae→ai→Prop} {n:Nat} {r0:ae} {σ':ai}:za K n r0 σ' = ∃ r lO,pT (fun b=>decide (n≤b)) σ' r r0∧iy lO σ'∧lO.length=n∧bw n lO∧r.low 0∧K r lO:=rfl
def DR:ae:=.fn 113 [] [.ptr 1 0]
def lJ (S:List Int):ai:=[kH S,kG]
theorem K2 (S:List Int):bw 2 (lJ S):=⟨Ynu S,⟨eo,trivial⟩,trivial⟩
@[go_sem] theorem Xal {n:Nat} (S:List Int):bz n (ny S)=True:=eq_true (CA S).1
@[go_sem] theorem Xag {n:Nat} (S:List Int):bz n (rr S)=True:=eq_true (CA S).2
@[go_sem] theorem Xaf {π:Nat→Nat} (S:List Int):d_ π (ny S)=ny S:=cI (CA S).1
@[go_sem] theorem Xan {π:Nat→Nat} (S:List Int):d_ π (rr S)=rr S:=cI (CA S).2
theorem Lg {f:ae} {args:List ae} {S S':List Int} {x:ae} {τ:ai} {K:ae→ai→Prop} (h:aq Tryz.prog f args (lJ S) (fun r σ'=>r=x∧σ'=lJ S')) (hf:f.low 2) (ha:bz 2 args)
  (hk:K x (kH S' :: kG :: τ)):aq Tryz.prog f args (kH S :: kG :: τ) K:=by
 refine aq.tail (σ:=lJ S) (τ:=τ) hf ha (K2 S) (h.mono ?_)
 rintro _ _ ⟨rfl,rfl⟩
 exact ⟨rfl,hk⟩
theorem Ff (wr:List Nat):∀ (i:Nat) (τ:ai),dG wr i τ τ = τ
 | _,[]=>rfl
 | i,x :: τ=>by simp only [dG,Ff wr (i+1) τ,ite_self]
theorem Yn9 {f:ae} {args:List ae} {S S':List Int} {x:ae} {τ:ai} {lo:Ctx} {Q:cb→St→Prop} {k:List KI} {ops:Array Oper} {dst:Option Tmp} {ol:List Oper} {fs:List Fp} {tm:List ae}
  (h:aq Tryz.prog f args (lJ S) (fun r σ'=>r=x∧σ'=lJ S')) (hf:f.low 2) (ha:bz 2 args) (hk:iD Tryz.prog lo Q k ops ol fs (put tm dst x) (kH S' :: kG :: τ)) :
  sr Tryz.prog lo Q k ops [0] dst ol fs tm (kH S :: kG :: τ) (kH S :: kG :: τ) f args:=by
 refine ⟨x,kH S' :: kG :: τ,Lg h hf ha ⟨rfl,rfl⟩,⟨.inl rfl,zW _ _ _⟩,?_⟩
 have:dG [0] 0 (kH S' :: kG :: τ) (kH S :: kG :: τ)=kH S' :: kG :: τ:=by
  show (if ([0]:List Nat).contains 0=true then kH S' else kH S) :: dG [0] 1 (kG :: τ) (kG :: τ) = _
  rw [Ff];rfl
 rw [this];exact hk
theorem VL:∀ (n:Nat) (t:Tm) (S:List Int),t.size≤n→t.size≤100000000→t.fit→S.length+t.size<1000000000 →
  aq Tryz.prog (.fn 114 [] []) [.agg [DR],t.aO] (lJ S) (fun r σ'=>r=(t.num S).1.aO∧σ'=lJ (t.num S).2)
 | 0,t,S,h,_,_,_=>by have:=oM t;omega
 | n+1,t,S,h,hs,hf,hS=>by
  refine aq.CM (rs:=[.cell 4 70]) (m:=37) Tryz.func114 rfl rfl rfl rfl (by decide) ?_
  have fH:=oM t
  have mz:=qh t.args
  obtain ⟨hd,ts⟩:=t
  have ha:=(F4 hd ts).symm
  by_cases ff:hd<0
  ·have fE:IntKind.i64.wrap (-1 - hd) = -1 - hd:=by have:=hf.1;exact eC (by unfold ov at *;omega)
   have Ds:(Tm.mk hd ts).num S=(.mk (-1 - ((j6 S (-1 - hd)).idxOf (-1 - hd):Int)) [],j6 S (-1 - hd)):=by rw [Tm.num,if_pos ff]
   rw [Ds]
   refine aK.go 1000 ?_
   simp only [go_sem,lJ,DR,ha,ff,fE]
   have hb:(j6 S (-1 - hd)).length<2000000000:=by have:=Pb S (-1 - hd);omega
   have GN:(j6 S (-1 - hd)).idxOf (-1 - hd)≤(j6 S (-1 - hd)).length:=List.idxOf_le_length
   refine Lg (Ykf S (-1 - hd) (by omega)) ⟨trivial,jq,trivial⟩ ⟨trivial,trivial⟩ ?_
   refine aK.go 1000 ?_
   have hw:IntKind.i64.wrap (-1 - (((j6 S (-1 - hd)).idxOf (-1 - hd):Nat):Int)) = -1 - (((j6 S (-1 - hd)).idxOf (-1 - hd):Nat):Int):=eC (by omega)
   simp only [go_sem,hw]
   rw [QI]
   refine ⟨(Tm.mk (-1 - (((j6 S (-1 - hd)).idxOf (-1 - hd):Nat):Int)) []).aO,lJ (j6 S (-1 - hd)),?_,?_,rfl,K2 _,dH _,rfl,rfl⟩
   ·rw [← F4];exact ⟨rfl,rfl,cJ _ _ _⟩
   ·simp [lJ,iy]
  ·have Ds:(Tm.mk hd ts).num S=(.mk hd (Tm.fx ts S).1,(Tm.fx ts S).2):=by rw [Tm.num,if_neg ff]
   rw [Ds]
   obtain ⟨Z,hZ⟩:∃ Z,Tm.fx ts S=Z:=⟨_,rfl⟩
   rw [hZ]
   refine aK.go 1000 ?_
   simp only [go_sem,lJ,DR,ha,ff,ak]
   refine aK.im (ι:={q:Nat×List Tm×List Int // q.1≤ts.length∧Z=(q.2.1++(Tm.fx (ts.drop q.1) q.2.2).1,(Tm.fx (ts.drop q.1) q.2.2).2)∧q.2.1.length=q.1∧q.2.2.length+Tm.bF (ts.drop q.1)≤S.length+Tm.bF ts}) 1000
    (fun q=>f_ 39 [(2, .ptr 2 0),(4, .ptr 4 0),(5, .ptr 5 0),(23, .ps 2 (ts.map Tm.aO)),(24, .int .i64 ts.length),(25, .int .i64 q.1.1)])
    (fun q=>[kH q.1.2.2,kG,some (.var [.fn 113 [] [.ptr 1 0]]),none,some (.var [.int .i64 0, .aU]),some (.var [.int .i64 hd,jo 6 2 (q.1.2.1.map Tm.aO)]),e9 (q.1.2.1.map Tm.aO)])
    (fun q=>ts.length - q.1.1) ⟨(0,[],S),by omega,by simp [hZ],rfl,ah _⟩ [] ?_ (fun _=>by simp) ?_
   ·refine jb rfl ?_
    simp only [go_sem,aP,uW,tY,bR,cI (bR _),kH,kG]
   ·rintro ⟨⟨i,L,S'⟩,hi,aQ,hL,yG⟩
    simp only at hi aQ hL yG
    simp only [Tm.args] at fH mz
    by_cases bG:(i:Int)<ts.length
    ·have aZ:i<ts.length:=by omega
     have hw:IntKind.i64.wrap ((i:Int)+1)=((i+1:Nat):Int):=by rw [eC (by omega)];omega
     have hg:(ts.map Tm.aO).getD i .undef=ts[i].aO:=n6 aZ
     rw [ao aZ,Tm.fx] at aQ
     rw [ao aZ,Tm.bF] at yG
     have qB:=IP (xw hf) i aZ
     simp only [Tm.args] at qB
     have a1:=Ci ts i aZ
     have a2:=Ce ts (i+1)
     simp only [go_sem,bG,ak,hg,fJ]
     refine ⟨by omega,?_⟩
     refine aK.draw [⟨none,[],[0,8]⟩,⟨none,[],[0,8]⟩, .no, .no,⟨none,[0],[]⟩,⟨some 8,[8],[]⟩,⟨some 9,[6,9],[]⟩, .no,⟨none,[5],[]⟩] 8 10 mixed rfl rfl (by decide) ?_
     simp only [go_sem,dC]
     obtain ⟨x,hx⟩:∃ x,ts[i]=x:=⟨_,rfl⟩
     simp only [hx] at qB a1 aQ yG ⊢
     have AW:=L9 x S'
     have s_:=VL n x S' (by omega) (by omega) qB (by omega)
     rw [dh x] at s_
     generalize hz:x.num S'=z at *
     obtain ⟨y,S2⟩:=z
     simp only at s_ aQ AW
     refine Yn9 s_ ⟨trivial,trivial⟩ ⟨⟨⟨trivial,jq,trivial⟩,trivial⟩,⟨trivial,bR _,trivial⟩,trivial⟩ ?_
     have h3:bH ([kH S2,kG,some (bE.var [.fn 113 [] [.ptr 1 0]]),none,some (.var [.int .i64 0, .aU]),some (.var [.int .i64 hd,jo 6 2 (L.map Tm.aO)]),e9 (L.map Tm.aO),some (.var [.int .i64 x.head, .ps 2 (x.args.map Tm.aO)]),some (.row [y.aO] 0),none]) 6=e9 (L.map Tm.aO):=rfl
     have nR:=of_eq_true (Cu [y])
     rw [show [y].map Tm.aO=[y.aO] from rfl] at nR
     have rQ:List.take 1 [y.aO]=[y.aO]:=rfl
     simp only [go_sem,vl h3,nR,ak,rQ,fJ]
     refine ⟨by omega,?_⟩
     refine aK.go 1000 ?_
     simp only [go_sem,hw]
     refine ⟨⟨(i+1,L++[y],S2),by simp only;omega,by simp only;rw [aQ];simp,by simp [hL],by simp only;omega⟩,[(6,9),(9,6)],jb rfl ?_,by simp only;omega⟩
     have lw:bz 0 ((L++[y]).map Tm.aO):=bR _
     dsimp only
     rw [cD] at lw ⊢
     rw [wo (by simp),wq (by simp)]
     simp only [aB,aP] at lw
     simp only [go_sem,kH,kG,bR,cI (bR _),cI lw,iC (av 7) lw,ak,ax,aS,aB,aP]
    ·have dV:i=ts.length:=by omega
     subst dV
     rw [aV,Tm.fx,bq] at aQ
     subst aQ
     simp only [go_sem,bG]
     refine aK.go 1000 ?_
     simp only [go_sem,xS]
     rw [QI]
     refine ⟨(Tm.mk hd L).aO,lJ S',?_,by simp [lJ,kG,iy],rfl,K2 _,dH _,rfl,rfl⟩
     rw [← F4]
     refine ⟨rfl,?_,cJ _ _ _⟩
     rw [sn rfl rfl];trivial
def wI (l:List Tm):List Tm×Int:=if iM l then ([],1) else ((Tm.fx l []).1,0)
theorem Yni (l:List Tm) (hs:Tm.bF l<99999999) (hf:Tm.fits l):aJ Tryz.prog 73 [.ps 2 (l.map Tm.aO)] (.dA [.ps 2 ((wI l).1.map Tm.aO), .int .i64 (wI l).2]):=by
 refine aJ.begin (rs:=[.tmp 2, .tmp 3]) (m:=27) 1000 Tryz.func73 rfl rfl rfl (by decide) ⟨bR _,trivial,trivial⟩ ?_
 have mz:=qh l
 have hw:=K4 l (by omega) (fun t ht=>by have:=tA ht;omega)
 unfold wI
 simp only [go_sem]
 refine aq.bV [] (hw) (by (try simp only [dh]);exact cJ _ _ _) (by simp [go_sem,dH,bR]) ?_;simp only [bP,bY,bX,if_true];refine aK.go 1000 ?_
 cases hW:iM l
 case' true=>simp only [go_sem,aP]
 case' false =>
  obtain ⟨Z,hZ⟩:∃ Z,Tm.fx l []=Z:=⟨_,rfl⟩
  rw [hZ]
  simp only [go_sem,ak]
  refine aK.im (ι:={q:Nat×List Tm×List Int // q.1≤l.length∧Z=(q.2.1++(Tm.fx (l.drop q.1) q.2.2).1,(Tm.fx (l.drop q.1) q.2.2).2)∧q.2.1.length=q.1∧q.2.2.length+Tm.bF (l.drop q.1)≤Tm.bF l}) 1000
   (fun q=>f_ 28 [(5, .ptr 2 0),(6,jo 3 2 (q.1.2.1.map Tm.aO)),(14, .ps 2 (l.map Tm.aO)),(15, .int .i64 l.length),(16, .int .i64 q.1.1)])
   (fun q=>[kH q.1.2.2,kG,some (.var [.fn 113 [] [.ptr 1 0]]),e9 (q.1.2.1.map Tm.aO)])
   (fun q=>l.length - q.1.1) ⟨(0,[],[]),by omega,by simp [hZ],rfl,by simp⟩ [] ?_ (fun _=>by simp) ?_
  ·refine jb rfl ?_
   simp only [go_sem,aP,uW,tY,bR,cI (bR _),kH,kG,show ny []=[] from rfl,show rr []=[] from rfl]
  ·rintro ⟨⟨i,L,S⟩,hi,aQ,hL,fH⟩
   simp only at hi aQ hL fH
   by_cases bG:(i:Int)<l.length
   ·have aZ:i<l.length:=by omega
    have hw:IntKind.i64.wrap ((i:Int)+1)=((i+1:Nat):Int):=by rw [eC (by omega)];omega
    have hg:(l.map Tm.aO).getD i .undef=l[i].aO:=n6 aZ
    rw [ao aZ,Tm.fx] at aQ
    rw [ao aZ,Tm.bF] at fH
    have qB:=IP hf i aZ
    obtain ⟨x,hx⟩:∃ x,l[i]=x:=⟨_,rfl⟩
    have a1:=Bg l i aZ
    simp only [hx] at qB aQ fH hg a1
    have AW:=L9 x S
    simp only [go_sem,bG,ak,hg,fJ]
    refine ⟨by omega,?_⟩
    have s_:=VL x.size x S (ah _) (by omega) qB (by omega)
    rw [dh x] at s_
    generalize hz:x.num S=z at *
    obtain ⟨y,S2⟩:=z
    simp only at s_ aQ AW
    refine Lg s_ ⟨trivial,trivial⟩ ⟨⟨⟨trivial,jq,trivial⟩,trivial⟩,⟨trivial,bR _,trivial⟩,trivial⟩ ?_
    have h3:bH [kH S2,kG,some (bE.var [.fn 113 [] [.ptr 1 0]]),e9 (L.map Tm.aO),some (.var [.int .i64 x.head, .ps 2 (x.args.map Tm.aO)]),some (.row [y.aO] 0)] 3=e9 (L.map Tm.aO):=rfl
    have nR:=of_eq_true (Cu [y])
    rw [show [y].map Tm.aO=[y.aO] from rfl] at nR
    have rQ:List.take 1 [y.aO]=[y.aO]:=rfl
    refine aK.go 1000 ?_
    simp only [go_sem,vl h3,nR,ak,rQ,fJ,hw]
    refine ⟨by omega,?_⟩
    refine ⟨⟨(i+1,L++[y],S2),by simp only;omega,by simp only;rw [aQ];simp,by simp [hL],by simp only;omega⟩,[(3,6),(6,3)],jb rfl ?_,by simp only;omega⟩
    have lw:bz 0 ((L++[y]).map Tm.aO):=bR _
    dsimp only
    rw [cD] at lw ⊢
    rw [wo (by simp),wq (by simp)]
    simp only [aB,aP] at lw
    simp only [go_sem,kH,kG,bR,cI (bR _),cI lw,iC (av 4) lw,ak,ax,aS,aB,aP]
   ·have dV:i=l.length:=by omega
    subst dV
    rw [aV,Tm.fx,bq] at aQ
    subst aQ
    simp only [go_sem,bG]
    refine aK.go 1000 ?_
    simp only [go_sem,xS]
    rw [sn rfl rfl];trivial
def vd:List Li→List Tm→List Li
 | l :: c,a :: b :: ts=>⟨l.neg,a,b⟩ :: vd c ts
 | _,_=>[]
def iW (c:List Li):List Li:=vd c (Tm.fx (cP c) []).1
def mN (c:List Li):List Li×Int:=if iM (cP c) then ([],1) else (iW c,0)
theorem Yjw (c:List Li) (ts:List Tm) (i:Nat) (hi:i<c.length) (h:ts.length=2*c.length) :
  vd (c.drop i) (ts.drop (2*i))=⟨c[i].neg,ts[2*i]'(by omega),ts[2*i+1]'(by omega)⟩ :: vd (c.drop (i+1)) (ts.drop (2*(i+1))):=by
 rw [ao hi,ao (by omega : 2*i<ts.length),ao (by omega : 2*i+1<ts.length),vd]
 rfl
theorem Rs:∀ (ts:List Tm) (S:List Int),(Tm.fx ts S).1.length=ts.length
 | [],_=>rfl
 | t :: ts,S=>by rw [Tm.fx];simp [Rs ts]
theorem Yxh (c:List Li) (ts:List Tm) (h:ts.length=2*c.length) (hc:c.length<1000000):aJ Tryz.prog 75 [.ps 5 (lits c), .ps 2 (ts.map Tm.aO)] (.ps 5 (lits (vd c ts))):=by
 refine aJ.begin (rs:=[.tmp 4]) (m:=32) 1000 Tryz.func75 rfl rfl rfl (by decide) (cz _) ?_
 obtain ⟨Z,hZ⟩:∃ Z,vd c ts=Z:=⟨_,rfl⟩
 rw [hZ]
 simp only [go_sem,gj]
 refine aK.im (ι:={q:Nat×List Li // q.1≤c.length∧Z=q.2++vd (c.drop q.1) (ts.drop (2*q.1))∧q.2.length=q.1}) 1000
  (fun q=>f_ 34 [(1, .ps 2 (ts.map Tm.aO)),(5,jo 0 5 (lits q.1.2)),(8, .ps 5 (lits c)),(9, .int .i64 c.length),(10, .int .i64 q.1.1)])
  (fun q=>[e9 (lits q.1.2)]) (fun q=>c.length - q.1.1) ⟨(0,[]),av _,by simp [hZ],rfl⟩ [] ?_ (fun _=>by simp) ?_
 ·refine jb rfl ?_
  simp only [go_sem,cz,cI (cz _),show lits []=[] from rfl,uW,tY,bR,cI (bR _)]
 ·rintro ⟨⟨i,L⟩,hi,aQ,hL⟩
  simp only at hi aQ hL
  by_cases bG:(i:Int)<c.length
  ·have aZ:i<c.length:=by omega
   have hw:IntKind.i64.wrap ((i:Int)+1)=((i+1:Nat):Int):=by rw [eC (by omega)];omega
   have r8:IntKind.i64.wrap (2*(i:Int))=((2*i:Nat):Int):=by rw [eC (by omega)];omega
   have DC:IntKind.i64.wrap (((2*i:Nat):Int)+1)=((2*i+1:Nat):Int):=by rw [eC (by omega)];omega
   have g1:=tV aZ
   rw [Yjw c ts i aZ h] at aQ
   have l1 : 2*i<ts.length:=by omega
   have l2 : 2*i+1<ts.length:=by omega
   have l1':((2*i:Nat):Int)<ts.length:=by omega
   have l2':((2*i+1:Nat):Int)<ts.length:=by omega
   have gt1:(ts.map Tm.aO).getD (2*i) .undef=(ts[2*i]).aO:=n6 l1
   have gt2:(ts.map Tm.aO).getD (2*i+1) .undef=(ts[2*i+1]).aO:=n6 l2
   generalize ts[2*i]=a at *
   generalize ts[2*i+1]=b at *
   generalize c[i]=l at *
   simp only [go_sem,bG,gj,g1,kL]
   refine ⟨by omega,?_⟩
   refine aK.draw [⟨none,[],[2]⟩, .no, .no, .no, .no, .no, .no, .no, .no, .no, .no, .no, .no, .no, .no,⟨some 2,[2],[]⟩,⟨some 3,[0,3],[]⟩] 2 4 mixed rfl rfl (by decide) ?_
   have h2:bH [e9 (lits L),some (.var [.bool l.neg, .int .i64 l.l.head, .ps 2 (l.l.args.map Tm.aO), .int .i64 l.r.head, .ps 2 (l.r.args.map Tm.aO)]),some (.row [.agg [.bool l.neg, .int .i64 a.head, .ps 2 (a.args.map Tm.aO), .int .i64 b.head, .ps 2 (b.args.map Tm.aO)]] 0),none] 0=e9 (lits L):=rfl
   have BX:lits [(⟨l.neg,a,b⟩:Li)]=[.agg [.bool l.neg, .int .i64 a.head, .ps 2 (a.args.map Tm.aO), .int .i64 b.head, .ps 2 (b.args.map Tm.aO)]]:=rfl
   have nR:=of_eq_true (Mr [(⟨l.neg,a,b⟩:Li)])
   rw [BX] at nR
   have sZ:lits (L++[(⟨l.neg,a,b⟩:Li)])=lits L++[.agg [.bool l.neg, .int .i64 a.head, .ps 2 (a.args.map Tm.aO), .int .i64 b.head, .ps 2 (b.args.map Tm.aO)]]:=by rw [← BX];simp [lits]
   have lw:bz 0 (lits (L++[(⟨l.neg,a,b⟩:Li)])):=cz _
   have rQ:List.take 1 [ae.agg [.bool l.neg, .int .i64 a.head, .ps 2 (a.args.map Tm.aO), .int .i64 b.head, .ps 2 (b.args.map Tm.aO)]]=[.agg [.bool l.neg, .int .i64 a.head, .ps 2 (a.args.map Tm.aO), .int .i64 b.head, .ps 2 (b.args.map Tm.aO)]]:=rfl
   simp only [go_sem,dC,r8,DC,ak,gt1,gt2,l1',l2',fJ,vl h2,nR,gj,rQ]
   refine ⟨by omega,by omega,by omega,?_⟩
   refine aK.go 1000 ?_
   simp only [go_sem,hw]
   refine ⟨⟨(i+1,L++[(⟨l.neg,a,b⟩:Li)]),by simp only;omega,by simp only;rw [aQ];simp,by simp [hL]⟩,[(0,3),(3,0)],jb rfl ?_,by simp only;omega⟩
   dsimp only
   rw [sZ] at lw ⊢
   rw [wo (by simp),wq (by simp)]
   simp only [go_sem,cz,gj,cI (cz _),bR,cI (bR _),cI lw,iC (av 1) lw,ak,ax,aS]
  ·have dV:i=c.length:=by omega
   subst dV
   rw [aV,vd.eq_2 _ _ (by simp),bq] at aQ
   subst aQ
   simp only [go_sem,bG]
   refine aK.go 1000 ?_
   simp only [go_sem,xS]
   rw [sn rfl rfl];trivial
theorem Yle {c:List Li} (h:lT c):∀ t∈cP c,t.size<99999999∧t.fit:=fun t ht=>by
 unfold cP at ht
 rw [lQ] at ht
 obtain ⟨l,hl,ht⟩:=ht
 obtain ⟨⟨a1,a2⟩,a3,a4⟩:=h.1 l hl
 simp only [aR,dR,or_false] at ht
 rcases ht with rfl | rfl
 ·exact ⟨a2,a1⟩
 ·exact ⟨a4,a3⟩
theorem Ui:∀ {ts:List Tm},(∀ t∈ts,t.fit)→Tm.fits ts
 | [],_=>trivial
 | t :: ts,h=>⟨h t (by simp),Ui fun x hx=>h x (by simp [hx])⟩
theorem IK (c:List Li) (hc:lT c) (hs:Tm.bF (cP c)<99999999):aJ Tryz.prog 34 [.ps 5 (lits c)] (.dA [.ps 5 (lits (mN c).1), .int .i64 (mN c).2]):=by
 refine aJ.begin (rs:=[.tmp 2, .tmp 3]) (m:=17) 1000 Tryz.func34 rfl rfl rfl (by decide) ⟨cz _,trivial,trivial⟩ ?_
 have h1:=Yh5 c hc.2
 have h2:=Yni (cP c) hs (Ui fun t ht=>(Yle hc t ht).2)
 have hn:(Tm.fx (cP c) []).1.length=2*c.length:=by rw [Rs,Fk]
 have h3:=Yxh c (Tm.fx (cP c) []).1 hn hc.2
 have hz:mN c=if iM (cP c) then ([],1) else (vd c (Tm.fx (cP c) []).1,0):=rfl
 have hy:wI (cP c)=if iM (cP c) then ([],1) else ((Tm.fx (cP c) []).1,0):=rfl
 simp only [go_sem]
 refine aq.bV [] (h1) (by (try simp only [dh]);exact cJ _ _ _) (by simp [go_sem,dH,bR,cz]) ?_;rw [jj];simp only [ite_self];refine aK.go 1000 ?_
 simp only [go_sem]
 refine aq.bV [] (h2) (by (try simp only [dh]);exact cJ _ _ _) (by simp [go_sem,dH,bR,cz]) ?_;rw [jj];simp only [ite_self];refine aK.go 1000 ?_
 rw [hy,hz]
 cases hW:iM (cP c)
 case' true=>simp only [go_sem,show lits []=[] from rfl]
 case' false =>
  simp only [go_sem]
  refine aq.bV [] (h3) (by (try simp only [dh]);exact cJ _ _ _) (by simp [go_sem,dH,bR,cz]) ?_;rw [jj];simp only [ite_self];refine aK.go 1000 ?_
  simp only [go_sem]
structure Wk where
 d:List Li
 u:List Int
 gone:Int
 sj:Int
 e:Int
def kK (g:List Sy) (es:List (List Li)) (W:Wk) (j:Nat):Option bE:=some (.var [.ps 4 (syms g), .ps 1 (da es), .ps 5 (lits W.d),jo j 1 (ints W.u), .int .i64 W.gone, .int .i64 W.sj, .int .i64 W.e])
def px (g:List Sy) (es:List (List Li)) (W:Wk) (j:Nat):ai:=kK g es W (j+1) :: (List.replicate j none++[e9 (ints W.u)])
def kq (k:Int) (W:Wk):Wk:=if k∈W.u then W else { W with u:=W.u++[k] }
theorem Ypg (g:List Sy) (es:List (List Li)) (W:Wk) {j n:Nat} (h:j<n):jw n (kK g es W j):=by
 unfold kK
 exact ⟨dK _,fy _,cz _,Bz h _ _,trivial,trivial,trivial,trivial⟩
theorem Yn6 (l:List Int) {n:Nat}:jw n (e9 (ints l)):=Aa _ (dB l)
theorem FY (g:List Sy) (es:List (List Li)) (W:Wk) (j:Nat):(px g es W j).length=j+2:=by simp [px]
theorem Mi (g:List Sy) (es:List (List Li)) (W:Wk) (j:Nat) {n:Nat} (h:j+2≤n):bw n (px g es W j):=by
 unfold px
 refine ⟨Ypg g es W (by omega),?_⟩
 induction j with
 | zero=>exact ⟨Yn6 _,trivial⟩
 | succ j ih =>
  rw [fM,bn,Sn]
  exact ih (by omega)
def zN (g:List Sy) (es:List (List Li)) (R:ae→Nat→Wk→Prop) (r:ae) (σ':ai):Prop:=∃ m W',R r m W'∧σ'=px g es W' m
theorem xq {g:List Sy} {es:List (List Li)} {R:ae→Nat→Wk→Prop} {r:ae} {S:ai} (m:Nat) (W':Wk) (h:R r m W') (hr:r.low 0) (hS:iy (px g es W' m) S):mJ (zN g es R) 2 r S:=by
 rw [fY]
 exact ⟨px g es W' m,hS,by rw [FY];omega,Mi g es W' m (by rw [FY];omega),m_ (av _) hr,m,W',h,rfl⟩
def OD (k:Int) (W:Wk) (r:ae) (m:Nat) (W':Wk):Prop:=r = .dA []∧W'=kq k W∧(m=0∨m=2)
theorem Ap (g:List Sy) (es:List (List Li)) (W:Wk):px g es W 0=[some (.var [.ps 4 (syms g), .ps 1 (da es), .ps 5 (lits W.d),jo 1 1 (ints W.u), .int .i64 W.gone, .int .i64 W.sj, .int .i64 W.e]),e9 (ints W.u)]:=rfl
theorem P8 (g:List Sy) (es:List (List Li)) (W:Wk) (k:Int) (hu:W.u.length<1000000):aq Tryz.prog (.fn 69 [] []) [.ptr 0 0, .int .i64 k] (px g es W 0) (zN g es (OD k W)):=by
 refine aq.begin (rs:=[]) (m:=19) 1000 Tryz.func69 rfl rfl rfl rfl rfl ?_
 rw [Ap]
 simp only [go_sem]
 refine aq.bV [1] (HJ W.u k (by omega)) ?_ ⟨dB _,trivial,trivial⟩ ?_
 ·simp only [go_sem,rH,rI,sn]
 simp only [bP,bY,bX,if_true]
 refine aK.go 1000 ?_
 by_cases c:k∈W.u
 ·simp only [go_sem,c]
  exact xq 0 W ⟨rfl,by unfold kq;rw [if_pos c], .inl rfl⟩ trivial (fN _)
 ·have h2:bH [some (.var [.ps 4 (syms g), .ps 1 (da es), .ps 5 (lits W.d),jo 1 1 (ints W.u), .int .i64 W.gone, .int .i64 W.sj, .int .i64 W.e]),e9 (ints W.u),some (.row [.int .i64 k] 0)] 1=e9 (ints W.u):=rfl
  have nR:eQ ⟨1,false,8,[.int .i64 0], .int .i64⟩ [.int .i64 k]:=⟨fun x hx=>by rw [aM.1 hx];exact ⟨rfl,rfl⟩,by decide,by decide,rfl⟩
  have hle:W.u.length+1≤6000000000000:=by omega
  simp only [go_sem,c,vl h2,lF,nR,hle]
  refine xq 2 { W with u:=W.u++[k] } ⟨rfl,by unfold kq;rw [if_neg c], .inr rfl⟩ trivial ?_
  unfold px kK
  simp only
  rw [Cs,wo (by simp),wq (by simp),lF]
  simp [iy,List.replicate]
theorem Mh (g:List Sy) (es:List (List Li)) (W:Wk) (j:Nat) (π:Nat→Nat):(kK g es W j).map (dI π)=kK g es W (π j):=by
 unfold kK
 rw [bu]
 simp [dI,d_,dL,Yrb,cI (dK _),cI (fy _),cI (cz _)]
theorem Ld (l:List Int) (π:Nat→Nat):(e9 (ints l)).map (dI π)=e9 (ints l):=by
 cases l with
 | nil=>rfl
 | cons a t =>
  have lw:bz 0 (ints (a :: t)):=dB _
  show Option.map (dI π) (some (.row (ints (a :: t)) 0)) = _
  rw [bu,xv,cI lw];rfl
def W5 (g:List Sy) (es:List (List Li)) (σ:ai) (a j:Nat) (W':Wk):Nat→ai
 | 0=>(σ.set a (kK g es W' j)).set j (e9 (ints W'.u))
 | m+1=>(σ.set a (kK g es W' (σ.length+m))).set j none++(List.replicate m none++[e9 (ints W'.u)])
theorem HB {g:List Sy} {es:List (List Li)} {W:Wk} {R:ae→Nat→Wk→Prop} {f f':ae} {args args':List ae} {σ:ai} {K:ae→ai→Prop} (a j:Nat) (Wp:a≠j) (h0 : σ[a]? = some (kK g es W j)) (h1 : σ[j]? = some (e9 (ints W.u)))
  (hf:f.low 2) (od:dL (fun b=>if b=0 then a else j) f=f') (ha:bz 2 args) (ha':d_ (fun b=>if b=0 then a else j) args=args')
  (h:aq Tryz.prog f args (px g es W 0) (zN g es R)) (hr:∀ r m W',R r m W'→r.low 0) (hk:∀ r m W',R r m W'→K r (W5 g es σ a j W' m)):aq Tryz.prog f' args' σ K:=by
 have mz:a < σ.length:=(aI.1 h0).1
 have BQ:j < σ.length:=(aI.1 h1).1
 have hZ:(px g es W 0).length=2:=FY g es W 0
 refine aq.mw (Z:=px g es W 0) (fun b=>if b=0 then a else j) (fun b b' h1 h2 e=>?_) (fun b hb=>?_) (fun b hb=>?_) (by rw [hZ];exact hf) od (by rw [hZ];exact ha) ha' (by rw [hZ];exact Mi g es W 0 (ah _)) h ?_
 ·rw [hZ] at h1 h2
  split at e<;>split at e<;>first | omega | exact absurd e Wp | exact absurd e.symm Wp
 ·split<;>assumption
 ·rw [hZ] at hb
  match b,hb with
  | 0,_=>exact ⟨kK g es W 1,rfl,by rw [Mh];exact h0⟩
  | 1,_=>exact ⟨e9 (ints W.u),rfl,by rw [Ld];exact h1⟩
 rintro r Z' ⟨m,W',hR,rfl⟩
 have JF:=hr r m W' hR
 rw [hZ]
 refine ⟨by rw [FY];omega,by rw [FY];exact Mi g es W' m (ah _),m_ (av _) JF,?_⟩
 rw [Ac JF]
 have he:jX (fun b=>if b=0 then a else j) 2 (px g es W' m) σ=W5 g es σ a j W' m:=by
  cases m with
  | zero =>
   show fv _ _ 0 [kK g es W' 1,e9 (ints W'.u)] σ++[] = _
   rw [bq,fv,fv,fv,Mh,Ld];rfl
  | succ m =>
   show fv _ _ 0 [kK g es W' (m+2),none] σ++(List.replicate m none++[e9 (ints W'.u)]).map _ = _
   rw [fv,fv,fv,Mh,cD,List.map_replicate,aB,aP,Ld]
   have:nj (fun b=>if b=0 then a else j) 2 σ.length (m+2) = σ.length+m:=by unfold nj;rw [if_neg (by omega)];omega
   rw [this];rfl
 rw [he]
 exact hk r m W' hR
def rC (z:Int×Wk) (r:ae) (m:Nat) (W':Wk):Prop:=r = .int .i64 z.1∧W'=z.2∧(m=0∨z.1=1∧(m=1∨m=4))
def gZ (W:Wk):Int×Wk:=if jC W.d=true then (2,{ W with gone:=1 }) else (0,W)
def jy:Nat→List (List Li)→List Li→Option Nat
 | _,[],_=>none
 | k,c :: es,d=>if (oq c d).2=0∧(oq c d).1=true then some k else jy (k+1) es d
def jz (es:List (List Li)) (W:Wk):Int×Wk:=match jy 0 es W.d with
 | some k=>(2,{ W with gone:=2,sj:=(k:Int) })
 | none=>(0,W)
theorem ZL (g:List Sy) (es:List (List Li)) (W:Wk) (hd:lT W.d):aq Tryz.prog (.fn 30 [.ptr 0 0] []) [] (px g es W 0) (zN g es (rC (gZ W))):=by
 refine aq.begin (rs:=[.tmp 2]) (m:=11) 1000 Tryz.func30 rfl rfl rfl rfl rfl ?_
 rw [Ap]
 have hT:=Ykk W.d hd
 simp only [go_sem]
 refine aq.bV [] hT (cJ _ _ _) ⟨cz _,trivial⟩ ?_
 simp only [bP,bY,bX,if_true]
 refine aK.go 1000 ?_
 cases h:jC W.d
 ·simp only [go_sem]
  exact xq 0 W ⟨by unfold gZ;rw [h];rfl,by unfold gZ;rw [h];rfl, .inl rfl⟩ trivial (fN _)
 ·simp only [go_sem]
  exact xq 0 { W with gone:=1 } ⟨by unfold gZ;rw [h];rfl,by unfold gZ;rw [h];rfl, .inl rfl⟩ trivial (fN _)
theorem Ylv (g:List Sy) (es:List (List Li)) (W:Wk) (oO:∀ c∈es,lT c) (hl:es.length<1000000) (hd:lT W.d):aq Tryz.prog (.fn 33 [.ptr 0 0] []) [] (px g es W 0) (zN g es (rC (jz es W))):=by
 refine aq.mq (rs:=[.tmp 2]) (m:=38) Tryz.func33 rfl rfl rfl rfl rfl ?_
 rw [show (px g es W 0).length=2 from rfl,Ap]
 refine aK.go 1000 ?_
 simp only [go_sem,nM]
 refine aK.dc (ι:={i:Nat // i≤es.length∧jy i (es.drop i) W.d=jy 0 es W.d}) 1000 (fun i=>f_ 39 [(0, .ptr 0 0),(2, .int .i64 0),(10, .ps 1 (da es)),(11, .int .i64 es.length),(12, .int .i64 i.1)])
  (fun _=>px g es W 0) (fun i=>es.length - i.1) ⟨0,av _,rfl⟩ ?_ (fun _=>ah _) ?_
 ·rw [Ap]
  simp only [go_sem,fy,dB,sP,dK,cz]
 ·rintro ⟨i,hi,aQ⟩
  rw [Ap]
  by_cases bG:(i:Int)<es.length
  ·have aZ:i<es.length:=by omega
   have hw:IntKind.i64.wrap ((i:Int)+1)=((i+1:Nat):Int):=by rw [eC (by omega)];omega
   rw [ao aZ,jy] at aQ
   have g1:=Ae aZ
   have hc:=oO _ (aE aZ)
   generalize es[i]=c at *
   have hS:=Yl1 c W.d hc hd
   simp only [go_sem,bG,nM,g1]
   refine ⟨by omega,?_⟩
   refine aq.bV [] hS (cJ _ _ _) ⟨cz _,cz _,trivial⟩ ?_
   rw [jj];simp only [ite_self]
   refine aK.go 1000 ?_
   generalize oq c W.d=z at *
   obtain ⟨z1,z2⟩:=z
   simp only at aQ ⊢
   have hend:mJ (zN g es (rC (jz es W))) 2 (.int .i64 2) [some (.var [.ps 4 (syms g), .ps 1 (da es), .ps 5 (lits W.d),jo 1 1 (ints W.u), .int .i64 2, .int .i64 i, .int .i64 W.e]),e9 (ints W.u)]∨¬ (z2=0∧z1=true):=by
    by_cases hz:z2=0∧z1=true
    ·rw [if_pos hz] at aQ
     exact .inl (xq 0 { W with gone:=2,sj:=(i:Int) } ⟨by unfold jz;rw [← aQ],by unfold jz;rw [← aQ], .inl rfl⟩ trivial (fN _))
    ·exact .inr hz
   have vI:¬ (z2=0∧z1=true)→jy (i+1) (es.drop (i+1)) W.d=jy 0 es W.d:=fun hz=>by rw [if_neg hz] at aQ;exact aQ
   clear aQ
   by_cases h2:z2=0
   ·subst h2
    cases z1
    ·simp only [go_sem,hw]
     refine ⟨⟨i+1,by omega,vI (by simp)⟩,?_,by simp only;omega⟩
     exact ⟨rfl,fy _,⟨dK _,fy _,cz _⟩,dB _⟩
    ·simp only [go_sem,hw]
     refine aK.go 1000 ?_
     simp only [go_sem]
     exact hend.resolve_right (by simp)
   ·simp only [go_sem,h2,hw]
    refine ⟨⟨i+1,by omega,vI (by simp [h2])⟩,?_,by simp only;omega⟩
    exact ⟨rfl,fy _,⟨dK _,fy _,cz _⟩,dB _⟩
  ·have dV:i=es.length:=by omega
   subst dV
   rw [aV,jy] at aQ
   simp only [go_sem,bG]
   refine aK.go 1000 ?_
   simp only [go_sem]
   refine xq 0 W ⟨by unfold jz;rw [← aQ],by unfold jz;rw [← aQ], .inl rfl⟩ trivial (fN _)
def kX:Nat→List (List Li)→List Li→Option (Nat×Nat)
 | _,[],_=>none
 | k,c :: es,d=>if (mr c d).2.2=0∧(mr c d).2.1=true then some (k,(mr c d).1.toNat) else kX (k+1) es d
def l7 (es:List (List Li)) (W:Wk):Int×Wk:=match kX 0 es W.d with
 | some x=>(1,kq (x.1:Int) { W with d:=W.d.eraseIdx x.2 })
 | none=>(0,W)
theorem Yua {c d:List Li} {k:Nat} (h:qP c d=some k):k<d.length:=by
 unfold qP at h
 simpa using bJ h
theorem PS {c d:List Li} (h:(mr c d).2.2=0∧(mr c d).2.1=true):∃ i:Nat,(mr c d).1=(i:Int)∧i<d.length:=by
 unfold mr at h ⊢
 split at h
 ·cases h.2
 ·rename_i h0
  rw [if_neg h0]
  cases hk:qP c d with
  | none=>rw [hk] at h;cases h.2
  | some k=>exact ⟨k,rfl,Yua hk⟩
theorem Yth (g:List Sy) (es:List (List Li)) (W:Wk) (oO:∀ c∈es,lT c) (hl:es.length<1000000) (hd:lT W.d) (hu:W.u.length<1000000):aq Tryz.prog (.fn 32 [.ptr 0 0] []) [] (px g es W 0) (zN g es (rC (l7 es W))):=by
 refine aq.mq (rs:=[.tmp 2]) (m:=48) Tryz.func32 rfl rfl rfl rfl rfl ?_
 rw [show (px g es W 0).length=2 from rfl,Ap]
 refine aK.go 1000 ?_
 simp only [go_sem,nM]
 refine aK.dc (ι:={i:Nat // i≤es.length∧kX i (es.drop i) W.d=kX 0 es W.d}) 1000 (fun i=>f_ 49 [(0, .ptr 0 0),(2, .int .i64 0),(11, .ps 1 (da es)),(12, .int .i64 es.length),(13, .int .i64 i.1)])
  (fun _=>px g es W 0) (fun i=>es.length - i.1) ⟨0,av _,rfl⟩ ?_ (fun _=>ah _) ?_
 ·rw [Ap]
  simp only [go_sem,fy,dB,sP,dK,cz]
 ·rintro ⟨i,hi,aQ⟩
  rw [Ap]
  by_cases bG:(i:Int)<es.length
  ·have aZ:i<es.length:=by omega
   have hw:IntKind.i64.wrap ((i:Int)+1)=((i+1:Nat):Int):=by rw [eC (by omega)];omega
   rw [ao aZ,kX] at aQ
   have g1:=Ae aZ
   have hc:=oO _ (aE aZ)
   generalize es[i]=c at *
   have hS:=Yqz c W.d hc hd
   have gU:=fun h=>PS (c:=c) (d:=W.d) h
   simp only [go_sem,bG,nM,g1]
   refine ⟨by omega,?_⟩
   refine aq.bV [] hS (cJ _ _ _) ⟨cz _,cz _,trivial⟩ ?_
   rw [jj];simp only [ite_self]
   refine aK.go 1000 ?_
   generalize mr c W.d=z at *
   obtain ⟨z1,z2,z3⟩:=z
   simp only at aQ gU ⊢
   have vI:¬ (z3=0∧z2=true)→kX (i+1) (es.drop (i+1)) W.d=kX 0 es W.d:=fun hz=>by rw [if_neg hz] at aQ;exact aQ
   by_cases h2:z3=0
   ·subst h2
    cases z2
    ·simp only [go_sem,hw]
     refine ⟨⟨i+1,by omega,vI (by simp)⟩,?_,by simp only;omega⟩
     exact ⟨rfl,fy _,⟨dK _,fy _,cz _⟩,dB _⟩
    ·obtain ⟨k,rfl,hk⟩:=gU ⟨rfl,rfl⟩
     rw [if_pos ⟨rfl,rfl⟩,cd] at aQ
     have EX:IntKind.i64.wrap ((k:Int)+1)=((k+1:Nat):Int):=by rw [eC (by have:=hd.2;omega)];omega
     have ep:W.d≠[]:=by intro e;rw [e] at hk;simp at hk
     have ym:=hd.2
     simp only [go_sem,hw,EX]
     refine aq.td [] (HV W.d ep (by omega)) (cJ _ _ _) ⟨cz _,trivial⟩ ?_
     rw [jj]
     simp only [Af,Ah,Ak,xv,Am,up,cI (cz _)]
     refine aK.go 1000 ?_
     simp only [go_sem,bn,bh,EX]
     refine aq.Ar (f:=.fn 71 [] []) (args:=[.os 0 0 W.d.length 5, .int .i64 k, .int .i64 ((k+1:Nat):Int)]) (B:=.row (lits W.d) 0) 3 rfl (cz _) ⟨trivial,trivial⟩ ⟨cq,trivial,trivial,trivial⟩ ((Kw W.d k hk (by omega)).mono ?_)
     rintro r σ' ⟨rfl,rfl⟩
     refine ⟨cq,_,rfl,cz _,?_⟩
     have Nb:W.d.take k++W.d.drop (k+1)=W.d.eraseIdx k:=(List.eraseIdx_eq_take_drop_succ W.d k).symm
     have je:(W.d.eraseIdx k).length=W.d.length - 1:=m0 hk
     rw [Nb]
     simp only [go_sem,cW,c_]
     refine aK.tell [3] 42 (.ps 5 (lits (W.d.eraseIdx k))) (by simp) ?_ ?_
     ·simp only [go_sem,bC,bm,gj,je]
      rw [bd (by rw [gj,je];exact ah _)]
      exact cJ _ _ _
     simp only [go_sem,cW,c_]
     have hU:=P8 g es { W with d:=W.d.eraseIdx k } i hu
     refine aK.go 1000 ?_
     simp only [go_sem]
     refine HB (g:=g) (es:=es) (W:={ W with d:=W.d.eraseIdx k }) (f:=.fn 69 [] []) (args:=[.ptr 0 0, .int .i64 i]) 0 1 (by decide) rfl rfl ⟨trivial,trivial⟩ rfl ⟨eo,trivial,trivial⟩ rfl hU (fun r m W' h=>by rw [h.1];trivial) ?_
     rintro r m W' ⟨rfl,MQ,hm⟩
     have hend:∀ S,iy (px g es W' (if m=0 then 0 else 4)) S→mJ (zN g es (rC (l7 es W))) 2 (.int .i64 1) S:=fun S hS =>
      xq _ W' ⟨by unfold l7;rw [← aQ],by unfold l7;rw [← aQ];exact MQ,by split;exact .inl rfl;exact .inr ⟨by unfold l7;rw [← aQ], .inr rfl⟩⟩ trivial hS
     rcases hm with rfl | rfl
     ·show aK _ _ _ _ _ ⟨_,[kK g es W' 1,e9 (ints W'.u),none,some (.row (lits (W.d.eraseIdx k)) (max 0 (lits (W.d.eraseIdx k)).length))]⟩
      refine aK.go 1000 ?_
      simp only [go_sem]
      refine aK.go 1000 ?_
      simp only [go_sem]
      exact hend _ (by simp [px,iy])
     ·show aK _ _ _ _ _ ⟨_,[kK g es W' 5,none,none,some (.row (lits (W.d.eraseIdx k)) (max 0 (lits (W.d.eraseIdx k)).length)),none,e9 (ints W'.u)]⟩
      refine aK.go 1000 ?_
      simp only [go_sem]
      refine aK.go 1000 ?_
      simp only [go_sem]
      exact hend _ (by simp [px,iy,List.replicate])
   ·simp only [go_sem,h2,hw]
    refine ⟨⟨i+1,by omega,vI (by simp [h2])⟩,?_,by simp only;omega⟩
    exact ⟨rfl,fy _,⟨dK _,fy _,cz _⟩,dB _⟩
  ·have dV:i=es.length:=by omega
   subst dV
   rw [aV,kX] at aQ
   simp only [go_sem,bG]
   refine aK.go 1000 ?_
   simp only [go_sem]
   refine xq 0 W ⟨by unfold l7;rw [← aQ],by unfold l7;rw [← aQ], .inl rfl⟩ trivial (fN _)
def iF:List Int→Wk→Wk
 | [],W=>W
 | k :: l,W=>iF l (kq k W)
def jP (g:List Sy) (es:List (List Li)) (W:Wk):Int×Wk :=
 if (cB g es W.d).2.2≠0 then (2,{ W with e:=(cB g es W.d).2.2 }) else if (cB g es W.d).2.1=[] then (0,W) else (1,iF (cB g es W.d).2.1 { W with d:=iq (cB g es W.d).1 })
theorem Ll (k:Int) (W:Wk):(kq k W).u.length≤W.u.length+1:=by unfold kq;split<;>simp
def zO (g:List Sy) (es:List (List Li)) (W:Wk):Bool→ai
 | true=>[kK g es W 1,e9 (ints W.u),none]
 | false=>[kK g es W 2,none,e9 (ints W.u)]
theorem Yly (g:List Sy) (es:List (List Li)) (W:Wk) (fE:qC es W.d) (hn:(cB g es W.d).2.2=0→lT (cB g es W.d).1) (hu:W.u.length+(cB g es W.d).2.1.length<1000000) :
  aq Tryz.prog (.fn 31 [.ptr 0 0] []) [] (px g es W 0) (zN g es (rC (jP g es W))):=by
 refine aq.mq (rs:=[.tmp 2]) (m:=48) Tryz.func31 rfl rfl rfl rfl rfl ?_
 rw [show (px g es W 0).length=2 from rfl,Ap]
 have hN:=Yna g es W.d fE
 obtain ⟨Z,hZ⟩:∃ Z,jP g es W=Z:=⟨_,rfl⟩
 have yg:=hZ
 unfold jP at yg
 rw [hZ]
 generalize cB g es W.d=z at *
 obtain ⟨z1,us,ze⟩:=z
 simp only at yg hN hn hu
 refine aK.go 1000 ?_
 simp only [go_sem]
 refine aK.draw [] 2 2 mixed rfl rfl (by decide) ?_
 simp only [go_sem,dC]
 refine n5 hN (cJ _ _ _) ⟨dK _,fy _,cz _,trivial⟩ ?_
 simp only [go_sem]
 refine aK.go 1000 ?_
 by_cases h0:ze=0
 case neg =>
  rw [if_pos h0] at yg
  simp only [go_sem,h0]
  refine xq 0 { W with e:=ze } ⟨by rw [← yg],by rw [← yg], .inl rfl⟩ trivial (fN _)
 subst h0
 rw [if_neg (by simp)] at yg
 by_cases h1:us=[]
 ·subst h1
  rw [if_pos rfl] at yg
  simp only [go_sem,lF,aS]
  refine xq 0 W ⟨by rw [← yg],by rw [← yg], .inl rfl⟩ trivial (fN _)
 rw [if_neg h1] at yg
 have ep:¬ (us.length:Int)=0:=by
  intro e;exact h1 (aY (by omega))
 have hT:=UB z1 (hn rfl)
 simp only [go_sem,lF,ep]
 refine aq.bV [] hT (cJ _ _ _) ⟨cz _,trivial⟩ ?_
 rw [jj];simp only [ite_self]
 refine aK.go 1000 ?_
 simp only [go_sem,lF]
 have xe:us.length<1000000:=by omega
 refine aK.im (ι:={q:Nat×Wk×Bool // q.1≤us.length∧(1,iF (us.drop q.1) q.2.1)=Z∧q.2.1.u.length≤W.u.length+q.1}) 1000 (fun q=>f_ 49 [(0, .ptr 0 0),(2, .int .i64 0),(39, .ps 1 (ints us)),(40, .int .i64 us.length),(41, .int .i64 q.1.1)])
  (fun q=>zO g es q.1.2.1 q.1.2.2) (fun q=>us.length - q.1.1) ⟨(0,{ W with d:=iq z1 },true),av _,yg,ah _⟩ [] ?_ (fun q=>by show 2≤(zO g es q.1.2.1 q.1.2.2).length;cases q.1.2.2<;>simp [zO]) ?_
 ·refine jb rfl ?_
  unfold zO kK
  simp only [go_sem,fy,dB,sP,dK,cz,cI (fy _),cI (dB _),cI (dK _),cI (cz _)]
 ·rintro ⟨⟨i,X,b⟩,hi,aQ,hX⟩
  simp only at hi aQ hX
  by_cases bG:(i:Int)<us.length
  ·have aZ:i<us.length:=by omega
   have hw:IntKind.i64.wrap ((i:Int)+1)=((i+1:Nat):Int):=by rw [eC (by omega)];omega
   rw [ao aZ,iF] at aQ
   have g1:=xy aZ
   generalize us[i]=k at *
   have hU:=P8 g es X k (by omega)
   have hUl:=Ll k X
   simp only [go_sem,bG,lF,g1]
   refine ⟨by omega,?_⟩
   have iE:(i+1≤us.length∧(1,iF (us.drop (i+1)) (kq k X))=Z∧(kq k X).u.length≤W.u.length+(i+1)):=⟨by omega,aQ,by omega⟩
   cases b
   ·refine HB (g:=g) (es:=es) (W:=X) (f:=.fn 69 [] []) (args:=[.ptr 0 0, .int .i64 k]) 0 2 (by decide) rfl rfl ⟨trivial,trivial⟩ rfl ⟨eo,trivial,trivial⟩ rfl hU (fun r m W' h=>by rw [h.1];trivial) ?_
    rintro r m W' ⟨rfl,rfl,hm⟩
    generalize kq k X=X' at *
    rcases hm with rfl | rfl
    ·show aK _ _ _ _ _ ⟨_,[kK g es X' 2,none,e9 (ints X'.u)]⟩
     refine aK.go 1000 ?_
     simp only [go_sem,hw]
     refine ⟨⟨(i+1,X',false),iE⟩,[],jb rfl ?_,by simp only;omega⟩
     unfold zO kK
     simp only [go_sem,fy,dB,sP,dK,cz,cI (fy _),cI (dB _),cI (dK _),cI (cz _)]
    ·show aK _ _ _ _ _ ⟨_,[kK g es X' 4,none,none,none,e9 (ints X'.u)]⟩
     refine aK.go 1000 ?_
     simp only [go_sem,hw]
     refine ⟨⟨(i+1,X',false),iE⟩,[(2,4),(4,2)],jb rfl ?_,by simp only;omega⟩
     unfold zO kK
     simp only [go_sem,fy,dB,sP,dK,cz,cI (fy _),cI (dB _),cI (dK _),cI (cz _)]
   ·refine HB (g:=g) (es:=es) (W:=X) (f:=.fn 69 [] []) (args:=[.ptr 0 0, .int .i64 k]) 0 1 (by decide) rfl rfl ⟨trivial,trivial⟩ rfl ⟨eo,trivial,trivial⟩ rfl hU (fun r m W' h=>by rw [h.1];trivial) ?_
    rintro r m W' ⟨rfl,rfl,hm⟩
    generalize kq k X=X' at *
    rcases hm with rfl | rfl
    ·show aK _ _ _ _ _ ⟨_,[kK g es X' 1,e9 (ints X'.u),none]⟩
     refine aK.go 1000 ?_
     simp only [go_sem,hw]
     refine ⟨⟨(i+1,X',true),iE⟩,[],jb rfl ?_,by simp only;omega⟩
     unfold zO kK
     simp only [go_sem,fy,dB,sP,dK,cz,cI (fy _),cI (dB _),cI (dK _),cI (cz _)]
    ·show aK _ _ _ _ _ ⟨_,[kK g es X' 4,none,none,none,e9 (ints X'.u)]⟩
     refine aK.go 1000 ?_
     simp only [go_sem,hw]
     refine ⟨⟨(i+1,X',false),iE⟩,[(2,4),(4,2)],jb rfl ?_,by simp only;omega⟩
     unfold zO kK
     simp only [go_sem,fy,dB,sP,dK,cz,cI (fy _),cI (dB _),cI (dK _),cI (cz _)]
  ·have dV:i=us.length:=by omega
   subst dV
   rw [aV,iF] at aQ
   simp only [go_sem,bG]
   refine aK.go 1000 ?_
   simp only [go_sem]
   cases b
   ·exact xq 1 X ⟨by rw [← aQ],by rw [← aQ], .inr ⟨by rw [← aQ], .inl rfl⟩⟩ trivial (by simp [px,zO,iy,List.replicate])
   ·exact xq 0 X ⟨by rw [← aQ],by rw [← aQ], .inl rfl⟩ trivial (by simp [px,zO,iy,List.replicate])
end Go.Proofs
namespace Go.Proofs
open Go Go.c8
def dE:List (Wk→Int×Wk)→Wk→Int×Wk
 | [],W=>(0,W)
 | F :: l,W=>if (F W).1=0 then dE l W else F W
def cS (g:List Sy) (es:List (List Li)):List (Wk→Int×Wk):=[gZ,jP g es,l7 es,jz es]
def vw (g:List Sy) (es:List (List Li)):Nat→Wk→Wk
 | 0,W=>W
 | n+1,W=>if (dE (cS g es) W).1=1 then vw g es n (dE (cS g es) W).2 else (dE (cS g es) W).2
def wg (c:List Li):Wk:=⟨iq c,[],0, -1,0⟩
structure Si where
 d:List Li
 u:List Int
 gone:Int
 sj:Int
def Si.aO (s:Si):ae:=.agg [.ps 5 (lits s.d), .ps 1 (ints s.u), .int .i64 s.gone, .int .i64 s.sj]
def o7 (W:Wk):Si×Int:=if W.e≠0 then (⟨[],[],0,0⟩,W.e) else if (mN W.d).2≠0 then (⟨[],[],0,0⟩,(mN W.d).2) else (⟨(mN W.d).1,W.u,W.gone,W.sj⟩,0)
def ix (g:List Sy) (es:List (List Li)) (c:List Li):Si×Int:=if cF g (c :: es)≠0 then (⟨[],[],0,0⟩,cF g (c :: es)) else o7 (vw g es 70 (wg c))
def mM (a b:Prop) (z:Int×Wk) (W:Wk):Prop:=(z.1=0∧z.2=W)∨(a∧z.1=1)∨(b∧z.1=2)
theorem ZV (W:Wk):mM False True (gZ W) W:=by
 unfold gZ mM;split
 ·exact .inr (.inr ⟨trivial,rfl⟩)
 ·exact .inl ⟨rfl,rfl⟩
theorem Ynm (g:List Sy) (es:List (List Li)) (W:Wk):mM True True (jP g es W) W:=by
 unfold jP mM;split
 ·exact .inr (.inr ⟨trivial,rfl⟩)
 ·split
  ·exact .inl ⟨rfl,rfl⟩
  ·exact .inr (.inl ⟨trivial,rfl⟩)
theorem Ytu (es:List (List Li)) (W:Wk):mM True False (l7 es W) W:=by
 unfold l7 mM;split
 ·exact .inr (.inl ⟨trivial,rfl⟩)
 ·exact .inl ⟨rfl,rfl⟩
theorem Ynk (es:List (List Li)) (W:Wk):mM False True (jz es W) W:=by
 unfold jz mM;split
 ·exact .inr (.inr ⟨trivial,rfl⟩)
 ·exact .inl ⟨rfl,rfl⟩
def rL (o:Option bE) (g:List Sy) (es:List (List Li)) (W:Wk):ai:=[o,kK g es W 3,some (.row [.fn 30 [.ptr 1 0] [], .fn 31 [.ptr 1 0] [], .fn 32 [.ptr 1 0] [], .fn 33 [.ptr 1 0] []] 0),e9 (ints W.u)]
theorem I7 {o:Option bE} {g:List Sy} {es:List (List Li)} {W:Wk} {z:Int×Wk} {f:FuncId} {K:ae→ai→Prop} (h:aq Tryz.prog (.fn f [.ptr 0 0] []) [] (px g es W 0) (zN g es (rC z)))
  (h0:K (.int .i64 z.1) (rL o g es z.2))
  (h1:z.1=1→K (.int .i64 z.1) [o,kK g es z.2 4,some (.row [.fn 30 [.ptr 1 0] [], .fn 31 [.ptr 1 0] [], .fn 32 [.ptr 1 0] [], .fn 33 [.ptr 1 0] []] 0),none,e9 (ints z.2.u)])
  (h4:z.1=1→K (.int .i64 z.1) [o,kK g es z.2 7,some (.row [.fn 30 [.ptr 1 0] [], .fn 31 [.ptr 1 0] [], .fn 32 [.ptr 1 0] [], .fn 33 [.ptr 1 0] []] 0),none,none,none,none,e9 (ints z.2.u)]) :
  aq Tryz.prog (.fn f [.ptr 1 0] []) [] (rL o g es W) K:=by
 refine HB (g:=g) (es:=es) (W:=W) (f:=.fn f [.ptr 0 0] []) (args:=[]) 1 3 (by decide) rfl rfl ⟨⟨eo,trivial⟩,trivial⟩ rfl trivial rfl h (fun r m W' h=>by rw [h.1];trivial) ?_
 rintro r m W' ⟨rfl,rfl,rfl | ⟨h5,rfl | rfl⟩⟩
 ·exact h0
 ·exact h1 h5
 ·exact h4 h5
theorem ZW (es:List (List Li)) (hl:es.length<1000000) {o:Option bE} {K:ae→ai→Prop} (h1:es=[]→K .aU [o]) (h2:es=[]→K (.os 2 0 0 1) [o,none,some (.row [] 0)]) (h3:es≠[]→K (.os 2 0 es.length 1) [o,none,some (.row (da es) 0)]) :
  aq Tryz.prog (.fn 27 [] []) [.ps 1 (da es)] [o] K:=by
 have vB:(es=[]∨es≠[]):=by cases es<;>simp
 rcases vB with rfl | ep
 ·refine aq.mw (Z:=[]) (f:=.fn 27 [] []) (args:=[.ps 1 []]) (fun b=>b) (fun b b' h=>by simp at h) (fun b h=>by simp at h) (fun b h=>by simp at h) ⟨trivial,trivial⟩ rfl ⟨trivial,trivial⟩ rfl trivial (bT.v RK) ?_
  rintro r Z' (⟨rfl,rfl⟩ | ⟨rfl,rfl⟩)
  ·exact ⟨ah _,trivial,trivial,h1 rfl⟩
  ·exact ⟨av _,by simp [go_sem],jq,h2 rfl⟩
 ·refine aq.td [] (R0 es ep (by omega)) (cJ _ _ _) ⟨fy _,trivial⟩ ?_
  rw [jj]
  simp only [Af,Ah,Ak,xv,Am,up,cI (fy _)]
  exact h3 ep
theorem Mb (es:List (List Li)) (c:List Li) (hl:es.length<1000000) {o:Option bE} {K:ae→ai→Prop} :
  (es=[]→K (.ps 1 (da (c :: es))) [o,none]→aq Tryz.prog (.fn 26 [] []) [.aU, .int .i64 0, .os 1 0 1 1] [o,some (.row [.ps 5 (lits c)] 0)] K) ∧
  (es=[]→K (.ps 1 (da (c :: es))) [o,none,none,none]→aq Tryz.prog (.fn 26 [] []) [.os 2 0 0 1, .int .i64 0, .os 3 0 1 1] [o,none,some (.row [] 0),some (.row [.ps 5 (lits c)] 0)] K) ∧
  (es≠[]→K (.ps 1 (da (c :: es))) [o,none,none,none]→aq Tryz.prog (.fn 26 [] []) [.os 2 0 es.length 1, .int .i64 0, .os 3 0 1 1] [o,none,some (.row (da es) 0),some (.row [.ps 5 (lits c)] 0)] K):=by
 have Wd:∀ b,b<3→b=0∨b=1∨b=2:=fun b hb=>by omega
 have lc:=cz (n:=0) c
 have le:=fy (n:=0) es
 have lr:=fy (n:=0) (c :: es)
 refine ⟨fun h hk=>?_,fun h hk=>?_,fun h hk=>?_⟩
 ·subst h
  refine aq.mw (Z:=[some (.row [.ps 5 (lits c)] 0)]) (f:=.fn 26 [] []) (args:=[.aU, .int .i64 0, .os 0 0 1 1]) (fun b=>b+1) (fun b b' h1 h2 e=>by omega) (fun b h=>by simp at h ⊢;omega) (fun b h=>?_) ⟨trivial,trivial⟩ rfl ⟨trivial,trivial,Nat.one_pos,trivial⟩ rfl ?_ (bT.v (QY c)) ?_
  ·obtain rfl:b=0:=by simp at h;exact h
   exact ⟨_,rfl,by simp [go_sem,cI lc]⟩
  ·simp [go_sem,cz]
  rintro r Z' ⟨rfl,rfl⟩
  exact ⟨ah _,by simp [go_sem],fy _,by rw [Ac (show ae.low 0 (.ps 1 (da [c])) from lr)];exact hk⟩
 ·subst h
  refine aq.mw (Z:=[none,some (.row [] 0),some (.row [.ps 5 (lits c)] 0)]) (f:=.fn 26 [] []) (args:=[.os 1 0 0 1, .int .i64 0, .os 2 0 1 1]) (fun b=>b+1) (fun b b' h1 h2 e=>by omega) (fun b h=>by simp at h ⊢;omega) (fun b h=>?_) ⟨trivial,trivial⟩ rfl ⟨(show (1:Nat)<3 by decide),trivial,(show (2:Nat)<3 by decide),trivial⟩ rfl ?_ (bT.v (Ri c)) ?_
  ·rcases Wd b h with rfl | rfl | rfl<;>exact ⟨_,rfl,by simp [go_sem,cI lc]⟩
  ·simp [go_sem,cz]
  rintro r Z' ⟨rfl,rfl⟩
  exact ⟨ah _,by simp [go_sem],fy _,by rw [Ac (show ae.low 0 (.ps 1 (da [c])) from lr)];exact hk⟩
 ·refine aq.mw (Z:=[none,some (.row (da es) 0),some (.row [.ps 5 (lits c)] 0)]) (f:=.fn 26 [] []) (args:=[.os 1 0 es.length 1, .int .i64 0, .os 2 0 1 1]) (fun b=>b+1) (fun b b' h1 h2 e=>by omega) (fun b h=>by simp at h ⊢;omega) (fun b h=>?_) ⟨trivial,trivial⟩ rfl ⟨(show (1:Nat)<3 by decide),trivial,(show (2:Nat)<3 by decide),trivial⟩ rfl ?_ (bT.v (Rr es c h hl)) ?_
  ·rcases Wd b ‹_› with rfl | rfl | rfl<;>exact ⟨_,rfl,by simp [go_sem,cI lc,cI le]⟩
  ·simp [go_sem,cz,fy]
  rintro r Z' ⟨rfl,rfl⟩
  exact ⟨ah _,by simp [go_sem],fy _,by rw [Ac (show ae.low 0 (.ps 1 (da (c :: es))) from lr)];exact hk⟩
end Go.Proofs
