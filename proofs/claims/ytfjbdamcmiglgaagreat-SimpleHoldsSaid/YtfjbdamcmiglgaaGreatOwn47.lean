/- Part 47 of my own framework and of the walks of functions: Wr, Ws, Ya, Yb, Yc, Yd, Za, Ye, Yf, Yg, Yh, Yi, Vf, Yj, Zb, Zc, Zd, Ba, Bb, Bd, Be, Ca, Cb, Cc, Cd, Ce, AcsZb, Cf, Cg, Ch, Ci, Cj, Ck, Cl, Cm, Cn, Co, Cp, Cq. -/
import Derived.Test.YtfjbdamcmiglgaaGreatOwn46
abbrev jZ:=@Decidable.byContradiction
abbrev pW:=@List.drop_of_length_le
abbrev gB:=@List.idxOf_lt_length_of_mem
abbrev nB:=@List.length_eraseIdx_of_lt
abbrev lP:=@List.mem_append_right
abbrev pz:=@List.mem_flatMap
abbrev kp:=@List.mem_of_mem_eraseIdx
set_option linter.unusedVariables false
set_option linter.unusedSectionVars false
set_option linter.unusedSimpArgs false
namespace Go.Proofs
open Go Go.dm
attribute [local go_sem] Nat.reduceAdd Nat.reduceSub Nat.reduceMul Nat.reduceLeDiff Nat.reduceEqDiff Nat.reduceBEq Nat.reduceLT Nat.le_refl Int.natCast_zero Nat.sub_zero List.length_map Int.toNat_natCast Int.natCast_one Int.reduceEq Int.reduceLT Int.reduceLE Int.reduceNe Int.sub_zero Int.zero_add Int.toNat_one
theorem Xc {g:List Sy} {c:List Li} (hc:iN g c):∀ s∈cJ c 0,jd g s.t:=fun s hs=>by
 obtain ⟨j,hj,h1,h2,h3⟩:=Dc c 0 s hs;exact GN MS _ _ _ (Gv hc (aC hj) s.rt) h2
end Go.Proofs
namespace Go.Proofs
open Go Go.dm
theorem Xh (h k s:Int):∀ l:List (Int×Int),gb (lM l k s) h=gb l h+if h=k then s else 0
 | []=>by
  simp only [lM,gb];by_cases e:h=k
  ·rw [if_pos e.symm,if_pos e];omega
  ·rw [if_neg (gQ e),if_neg e];rfl
 | x :: r=>by
  have ih:=Xh h k s r;simp only [lM];split
  ·rename_i e;simp only [gb];by_cases e2:x.1=h
   ·rw [if_pos e2,if_pos e2,if_pos (by omega)]
   ·rw [if_neg e2,if_neg e2,if_neg (by omega)];omega
  ·rename_i e;simp only [gb];by_cases e2:x.1=h
   ·rw [if_pos e2,if_pos e2,if_neg (by omega)];omega
   ·rw [if_neg e2,if_neg e2,ih]
theorem M0 (k s:Int):∀ (l:List (Int×Int)) (h:Int),h∈(lM l k s).map Prod.fst↔h=k∨h∈l.map Prod.fst
 | [],h=>by simp [lM]
 | x :: r,h=>by
  have ih:=M0 k s r h;simp only [lM];split
  ·rename_i e;simp only [aK,aQ];rw [← e];constructor
   ·rintro (h1 | h1);exact .inl h1;exact .inr (.inr h1)
   ·rintro (h1 | h1 | h1);exact .inl h1;exact .inl h1;exact .inr h1
  ·simp only [aK,aQ,ih];constructor
   ·rintro (h1 | h1 | h1);exact .inr (.inl h1);exact .inl h1;exact .inr (.inr h1)
   ·rintro (h1 | h1 | h1);exact .inr (.inl h1);exact .inl h1;exact .inr (.inr h1)
theorem UR (k s:Int):∀ (l:List (Int×Int)),(l.map Prod.fst).Nodup→((lM l k s).map Prod.fst).Nodup
 | [],_=>by simp [lM]
 | x :: r,h=>by
  simp only [aK,eT] at h;simp only [lM];split
  ·rename_i e;simp only [aK,eT];exact h
  ·rename_i e;simp only [aK,eT];refine ⟨fun hm=>?_,UR k s r h.2⟩;rcases (M0 k s r x.1).1 hm with h1 | h1
   ·exact e h1
   ·exact h.1 h1
def wY (l:List (Int×Int)):Prop:=(l.map Prod.fst).Nodup∧∀ h∈l.map Prod.fst,h<0
theorem WU {l:List (Int×Int)}:∀ (_:(l.map Prod.fst).Nodup) (x:Int×Int),x∈l→gb l x.1=x.2:=by
 induction l with
 | nil=>intro _ x h;cases h
 | cons a l ih =>
  intro hn x hx;simp only [aK,eT] at hn;simp only [gb];rcases aQ.1 hx with rfl | hx
  ·rw [if_pos rfl]
  ·rw [if_neg (fun e:a.1=x.1=>hn.1 (by rw [e];exact m8 hx))];exact ih hn.2 x hx
theorem Yjd {l:List (Int×Int)} {h:Int}:h ∉ l.map Prod.fst→gb l h=0:=by
 induction l with
 | nil=>intro _;rfl
 | cons a l ih =>
  intro hn;simp only [aK,aQ,not_or] at hn;simp only [gb];rw [if_neg (gQ hn.1)];exact ih hn.2
theorem QF {l:List (Int×Int)} (hl:wY l) (p:Int→Bool) (hp:p 0=false):(l.map Prod.snd).any p=true↔∃ h,h<0∧p (gb l h)=true:=by
 rw [bV];constructor
 ·rintro ⟨y,hy,hpy⟩;obtain ⟨x,hx,rfl⟩:=cB.1 hy;exact ⟨x.1,hl.2 _ (m8 hx),by rw [WU hl.1 x hx];exact hpy⟩
 ·rintro ⟨h,_,Py⟩;by_cases hm:h∈l.map Prod.fst
  ·obtain ⟨x,hx,rfl⟩:=cB.1 hm;exact ⟨x.2,m8 hx,by rw [← WU hl.1 x hx];exact Py⟩
  ·rw [Yjd hm,hp] at Py;cases Py
mutual
theorem MV (g:List Sy) (s:Int):∀ (t:Tm) (x:Int×List (Int×Int)),t.good=true→wY x.2→(tj g s t x).1=x.1+s*t.mV g∧wY (tj g s t x).2∧∀ h,h<0→gb (tj g s t x).2 h=gb x.2 h+s*(t.cv (-1 - h):Int)
 | .mk k ts,x,hg,hx=>by
  obtain ⟨g1,g2,g3,g4⟩:=yO hg;simp only [Tm.head,Tm.args] at g1 g2 g3 g4;rw [tj,Tm.mV];by_cases hn:k<0
  ·rw [if_pos hn,if_pos hn];have sT:=g4 hn;refine ⟨by simp only;omega,⟨UR k s _ hx.1,fun h hm=>?_⟩,fun h hh=>?_⟩
   ·rcases (M0 k s _ h).1 hm with rfl | hm
    ·exact hn
    ·exact hx.2 h hm
   ·simp only
    rw [Xh,Tm.cv,sT,Tm.Cx];by_cases e:h=k
    ·rw [if_pos e,if_pos (by omega)];simp
    ·rw [if_neg e,if_neg (by omega)];simp
  ·rw [if_neg hn,if_neg hn];have tG:Tm.fH ts=true:=by rw [Tm.good,aB] at hg;exact hg.2
   obtain ⟨a1,a2,a3⟩:=Uw g s ts (x.1+s*n6 g k,x.2) tG hx;refine ⟨?_,a2,fun h hh=>?_⟩
   ·rw [a1];have:=M_ g ts 0 (n6 g k);rw [Int.zero_add] at this;rw [this,Int.mul_add];simp only;omega
   ·rw [a3 h hh,Tm.cv,if_neg (by omega),bq]
theorem Uw (g:List Sy) (s:Int):∀ (ts:List Tm) (x:Int×List (Int×Int)),Tm.fH ts=true→wY x.2→(pk g s ts x).1=x.1+s*Tm.qw g ts 0∧wY (pk g s ts x).2∧∀ h,h<0→gb (pk g s ts x).2 h=gb x.2 h+s*(Tm.Cx (-1 - h) ts:Int)
 | [],x,_,hx=>by
  rw [pk];exact ⟨by simp [Tm.qw],hx,fun h _=>by simp [Tm.Cx]⟩
 | t :: ts,x,hg,hx=>by
  rw [Tm.fH,aB] at hg;rw [pk];obtain ⟨a1,a2,a3⟩:=MV g s t x hg.1 hx;obtain ⟨b1,b2,b3⟩:=Uw g s ts _ hg.2 a2;refine ⟨?_,b2,fun h hh=>?_⟩
  ·rw [b1,a1,Tm.qw];have:=M_ g ts 0 (t.mV g);rw [this,Int.mul_add];omega
  ·rw [b3 h hh,a3 h hh,Tm.Cx]
   push_cast
   rw [Int.mul_add];omega
end
theorem Nb (g:List Sy) {t u:Tm} (ht:t.good=true) (hu:u.good=true):(oC g t u).1=t.mV g - u.mV g∧wY (oC g t u).2∧∀ h,h<0→gb (oC g t u).2 h=(t.cv (-1 - h):Int) - u.cv (-1 - h):=by
 have h0:wY ([]:List (Int×Int)):=⟨by simp,fun h hh=>by simp at hh⟩;obtain ⟨a1,a2,a3⟩:=MV g 1 t (0,[]) ht h0;obtain ⟨b1,b2,b3⟩:=MV g (-1) u _ hu a2;unfold oC;refine ⟨by rw [b1,a1];simp only;omega,b2,fun h hh=>?_⟩;rw [b3 h hh,a3 h hh];simp only [gb];omega
mutual
theorem Rn {v:Int} (hv : 0≤v):∀ t:Tm,t.dY (fun w=>w≠v)→t.cv v=0
 | .mk h ts,ha=>by
  rw [Tm.cv,Wz hv ts ha.2];by_cases e:h = -1 - v
  ·exact absurd (by omega) (ha.1 (by omega))
  ·rw [if_neg e]
theorem Wz {v:Int} (hv : 0≤v):∀ ts:List Tm,Tm.fm (fun w=>w≠v) ts→Tm.Cx v ts=0
 | [],_=>rfl
 | t :: ts,ha=>by rw [Tm.Cx,Rn hv t ha.1,Wz hv ts ha.2]
end
theorem Yyk {v:Int} (hv : 0≤v) {t:Tm} (h:v ∉ t.vars):t.cv v=0 :=
 Rn hv t ((yQ t).1 fun w hw e=>h (e ▸ hw))
theorem MD (a b:Tm):gZ a b=true↔∀ v,0≤v→b.cv v≤a.cv v:=by
 unfold gZ;rw [a8];constructor
 ·intro h v hv;by_cases hm:v∈b.vars
  ·exact of_decide_eq_true (h v hm)
  ·rw [Yyk hv hm];exact au _
 ·intro h v hm;exact decide_eq_true (h v (Zvd b v hm))
theorem Ybu {g:List Sy} {t u:Tm} (ht:t.good=true) (hu:u.good=true):(((oC g t u).2.map Prod.snd).any fun n=>decide (n<0)) = !gZ t u:=by
 obtain ⟨_,h2,h3⟩:=Nb g ht hu;have h:=QF h2 (fun n=>decide (n<0)) rfl;rw [dU,h,bw,← dw,MD];constructor
 ·rintro ⟨k,hk,hp⟩ fq;have:=fq (-1 - k) (by omega);have hp:=of_decide_eq_true hp;rw [h3 k hk] at hp;omega
 ·intro hn;obtain ⟨v,hv⟩:=Classical.not_forall.1 hn;obtain ⟨PW,FW⟩:=Classical.not_imp.1 hv;refine ⟨-1 - v,by omega,decide_eq_true ?_⟩;rw [h3 _ (by omega),show -1 - (-1 - v)=v by omega];omega
theorem Ybl {g:List Sy} {t u:Tm} (ht:t.good=true) (hu:u.good=true):(((oC g t u).2.map Prod.snd).any fun n=>decide (0<n)) = !gZ u t:=by
 obtain ⟨_,h2,h3⟩:=Nb g ht hu;have h:=QF h2 (fun n=>decide (0<n)) rfl;rw [dU,h,bw,← dw,MD];constructor
 ·rintro ⟨k,hk,hp⟩ fq;have:=fq (-1 - k) (by omega);have hp:=of_decide_eq_true hp;rw [h3 k hk] at hp;omega
 ·intro hn;obtain ⟨v,hv⟩:=Classical.not_forall.1 hn;obtain ⟨PW,FW⟩:=Classical.not_imp.1 hv;refine ⟨-1 - v,by omega,decide_eq_true ?_⟩;rw [h3 _ (by omega),show -1 - (-1 - v)=v by omega];omega
theorem R1 {g:List Sy} {t u:Tm} (ht:t.good=true) (hu:u.good=true) (n:Int):uN (oC g t u) n=nj n (!gZ u t) (!gZ t u):=by
 unfold uN;rw [Ybu ht hu,Ybl ht hu]
theorem K7 {g:List Sy} {t u:Tm} (ht:t.good=true) (hu:u.good=true) {n:Int}:uN (oC g t u) n=1↔0<n∧gZ t u=true:=by
 rw [R1 ht hu];unfold nj;by_cases h1 : 0<n∧(!gZ t u)=false
 ·rw [if_pos h1];simpa using h1
 ·rw [if_neg h1];simp only [dB] at h1;split<;>(constructor<;>intro h<;>first | omega | exact absurd h h1)
theorem K3 {g:List Sy} {t u:Tm} (ht:t.good=true) (hu:u.good=true) {n:Int}:uN (oC g t u) n = -1↔n<0∧gZ u t=true:=by
 rw [R1 ht hu];unfold nj;by_cases h1 : 0<n∧(!gZ t u)=false
 ·rw [if_pos h1];constructor
  ·intro h;omega
  ·intro h;omega
 ·rw [if_neg h1];by_cases h2:n<0∧(!gZ u t)=false
  ·rw [if_pos h2];simpa using h2
  ·rw [if_neg h2];simp only [dB] at h2;constructor
   ·intro h;omega
   ·intro h;exact absurd h h2
theorem KZ (x:Int×List (Int×Int)) (n:Int):uN x n≠0:=by
 unfold uN nj;split
 ·omega
 split<;>omega
theorem UD (g:List Sy) (t u:Tm):eG g t u=if t=u then 0 else if (oC g t u).1≠0 then uN (oC g t u) (oC g t u).1 else
  if t.head<0∨u.head<0 then 2 else if t.head≠u.head then uN (oC g t u) (t.head - u.head) else g_ g (oC g t u) t.args u.args:=by
 cases t;rw [eG];rfl
theorem K8 (g:List Sy) (t u:Tm):t.gr g u=if gZ t u=false then false else if t.mV g≠u.mV g then decide (u.mV g<t.mV g) else if t.head<0∨u.head<0 then false else if t.head≠u.head then decide (u.head<t.head) else Tm.td g t.args u.args:=by
 cases t;rw [Tm.gr];rfl
theorem KS {t u:Tm} (h1:t.head=u.head) (h2:t.args=u.args):t=u:=by
 cases t;cases u;simp only [Tm.head,Tm.args] at h1 h2;rw [h1,h2]
theorem ML (x:Int×List (Int×Int)) (n:Int):uN x n=1∨uN x n = -1∨uN x n=2:=by
 unfold uN nj;split
 ·exact .inl rfl
 split
 ·exact .inr (.inl rfl)
 ·exact .inr (.inr rfl)
theorem Tf (g:List Sy) (x:Int×List (Int×Int)):∀ ts us:List Tm,g_ g x ts us=0∨g_ g x ts us=1∨g_ g x ts us = -1∨g_ g x ts us=2
 | [],_=>by rw [g_];simp
 | _ :: _,[]=>by rw [g_];simp
 | t :: ts,u :: us=>by
  rw [g_];split
  ·split
   ·exact .inr (.inr (.inr rfl))
   ·exact .inr (ML _ _)
  ·exact Tf g x ts us
theorem T7 (g:List Sy) (t u:Tm):eG g t u=0∨eG g t u=1∨eG g t u = -1∨eG g t u=2:=by
 rw [UD];split
 ·exact .inl rfl
 split
 ·exact .inr (ML _ _)
 split
 ·exact .inr (.inr (.inr rfl))
 split
 ·exact .inr (ML _ _)
 ·exact Tf _ _ _ _
def agree (g:List Sy) (t u:Tm):Prop:=(eG g t u=1↔t.gr g u=true)∧(eG g t u = -1↔u.gr g t=true)∧(eG g t u=0↔t=u)
theorem S7 {g:List Sy} {x y:Tm} (hx:x.good=true) (hy:y.good=true):∀ (ts us:List Tm),ts.length=us.length→(∀ t∈ts, ∀ u∈us,agree g t u) →
  (g_ g (oC g x y) ts us=1↔Tm.td g ts us=true∧gZ x y=true)∧(g_ g (oC g x y) ts us = -1↔Tm.td g us ts=true∧gZ y x=true)∧(g_ g (oC g x y) ts us=0↔ts=us)
 | [],[],_,_=>by
  rw [g_,Tm.td];exact ⟨⟨fun h=>by omega,fun h=>by cases h.1⟩,⟨fun h=>by omega,fun h=>by cases h.1⟩,by simp⟩
 | t :: ts,u :: us,hl,h=>by
  obtain ⟨a1,a2,a3⟩:=h t (by simp) u (by simp);have ih:=S7 hx hy ts us (by simpa using hl) (fun a ha b hb=>h a (by simp [ha]) b (by simp [hb]));rw [g_,Tm.td,Tm.td];by_cases e:t=u
  ·rw [if_neg (fun hn=>hn (a3.2 e)),if_pos e,if_pos e.symm];refine ⟨ih.1,ih.2.1,?_⟩;rw [ih.2.2,e];simp
  ·have eH:eG g t u≠0:=fun h0=>e (a3.1 h0);rw [if_pos eH,if_neg e,if_neg (gQ e)];by_cases h2:eG g t u=2
   ·rw [if_pos h2];refine ⟨⟨fun h=>by omega,fun h=>?_⟩,⟨fun h=>by omega,fun h=>?_⟩,⟨fun h=>by omega,fun h=>?_⟩⟩
    ·have:=a1.2 h.1;omega
    ·have:=a2.2 h.1;omega
    ·exact absurd (ko h).1 e
   ·rw [if_neg h2];refine ⟨?_,?_,⟨fun h=>absurd h (KZ _ _),fun h=>absurd (ko h).1 e⟩⟩
    ·rw [K7 hx hy,← a1];constructor
     ·rintro ⟨h3,h4⟩;refine ⟨?_,h4⟩;rcases T7 g t u with h5 | h5 | h5 | h5<;>omega
     ·rintro ⟨h3,h4⟩;exact ⟨by omega,h4⟩
    ·rw [K3 hx hy,← a2];constructor
     ·rintro ⟨h3,h4⟩;refine ⟨?_,h4⟩;rcases T7 g t u with h5 | h5 | h5 | h5<;>omega
     ·rintro ⟨h3,h4⟩;exact ⟨by omega,h4⟩
def yt (g:List Sy) (t u:Tm):Bool:=if t.mV g≠u.mV g then decide (u.mV g<t.mV g) else if t.head<0∨u.head<0 then false else if t.head≠u.head then decide (u.head<t.head) else Tm.td g t.args u.args
theorem Sr (g:List Sy) (t u:Tm):t.gr g u=(gZ t u&&yt g t u):=by
 rw [K8];unfold yt;cases gZ t u<;>simp
theorem MQ (g:List Sy):∀ l:List Tm,Tm.td g l l=false
 | []=>rfl
 | a :: l=>by rw [Tm.td,if_pos rfl];exact MQ g l
theorem Tn (g:List Sy):∀ (n:Nat) (t u:Tm),t.size≤n→jd g t→jd g u→agree g t u
 | 0,t,_,h,_,_=>by have:=A5 t;omega
 | n+1,t,u,hn,ht,hu=>by
  have gt:=(ru (mg ht.1).1).2.2;have gu:=(ru (mg hu.1).1).2.2;have hW:=(Nb g gt gu).1;unfold agree;rw [UD,Sr g t u,Sr g u t];by_cases e:t=u
  ·subst e;rw [if_pos rfl];have key:yt g t t=false:=by
    unfold yt;rw [if_neg (fun h=>h rfl),if_neg (fun h=>h rfl:¬ t.head≠t.head),MQ];split<;>rfl
   rw [key,iD];exact ⟨⟨fun h=>by omega,fun h=>by cases h⟩,⟨fun h=>by omega,fun h=>by cases h⟩,by simp⟩
  ·rw [if_neg e];by_cases c1:t.mV g=u.mV g
   ·rw [if_neg (by omega)];have r1:yt g t u=if t.head<0∨u.head<0 then false else if t.head≠u.head then decide (u.head<t.head) else Tm.td g t.args u.args:=by unfold yt;rw [if_neg (fun h=>h c1)]
    have r2:yt g u t=if u.head<0∨t.head<0 then false else if u.head≠t.head then decide (t.head<u.head) else Tm.td g u.args t.args:=by unfold yt;rw [if_neg (fun h=>h c1.symm)]
    by_cases c2:t.head<0∨u.head<0
    ·rw [if_pos c2] at r1 ⊢;rw [if_pos c2.symm] at r2;rw [r1,r2,iD,iD];exact ⟨⟨fun h=>by omega,fun h=>by cases h⟩,⟨fun h=>by omega,fun h=>by cases h⟩,⟨fun h=>by omega,fun h=>absurd h e⟩⟩
    ·rw [if_neg c2] at r1 ⊢;rw [if_neg (fun h=>c2 h.symm)] at r2;by_cases c3:t.head=u.head
     ·rw [if_neg (fun h=>h c3)] at r1 ⊢;rw [if_neg (fun h=>h c3.symm)] at r2;have hl:=Yw7 ht hu (by omega) c3;have hA:=S7 (g:=g) gt gu t.args u.args hl (fun a ha b hb=>Tn g n a b (by have:=uD ha;have:=po t;omega) (MS t ht a ha) (MS u hu b hb));rw [r1,r2,aB,aB];refine ⟨?_,?_,?_⟩
      ·rw [hA.1];exact And.comm
      ·rw [hA.2.1];exact And.comm
      ·rw [hA.2.2];exact ⟨fun h=>KS c3 h,fun h=>absurd h e⟩
     ·rw [if_pos c3] at r1 ⊢;rw [if_pos (gQ c3)] at r2;rw [r1,r2,aB,aB,decide_eq_true_eq,decide_eq_true_eq];refine ⟨?_,?_,⟨fun h=>absurd h (KZ _ _),fun h=>absurd h e⟩⟩
      ·rw [K7 gt gu];exact ⟨fun h=>⟨h.2,by omega⟩,fun h=>⟨by omega,h.1⟩⟩
      ·rw [K3 gt gu];exact ⟨fun h=>⟨h.2,by omega⟩,fun h=>⟨by omega,h.1⟩⟩
   ·rw [if_pos (by omega)];have r1:yt g t u=decide (u.mV g<t.mV g):=by unfold yt;rw [if_pos c1]
    have r2:yt g u t=decide (t.mV g<u.mV g):=by unfold yt;rw [if_pos (gQ c1)]
    rw [r1,r2,aB,aB,decide_eq_true_eq,decide_eq_true_eq];refine ⟨?_,?_,⟨fun h=>absurd h (KZ _ _),fun h=>absurd h e⟩⟩
    ·rw [K7 gt gu,hW];exact ⟨fun h=>⟨h.2,by omega⟩,fun h=>⟨by omega,h.1⟩⟩
    ·rw [K3 gt gu,hW];exact ⟨fun h=>⟨h.2,by omega⟩,fun h=>⟨by omega,h.1⟩⟩
theorem Wu {g:List Sy} {t u:Tm} (ht:jd g t) (hu:jd g u):decide (eG g t u=1)=t.gr g u:=by
 have:=(Tn g _ t u (ae _) ht hu).1;rw [dU,decide_eq_true_eq];exact this
section
variable {α:Type} (same : α→α→Bool)
def xw (x : α):List α→Option (List α)
 | []=>none
 | y :: b=>if same x y=true then some b else (xw x b).map (y :: ·)
def dS:List α→List α→List α
 | [],_=>[]
 | x :: a,b=>match xw same x b with
  | none=>x :: dS a b
  | some b'=>dS a b'
def lQ:List α→List Bool→List α
 | y :: b,u :: us=>if u=true then lQ b us else y :: lQ b us
 | _,_=>[]
theorem Rw (y : α) (b:List α) (us:List Bool):lQ (y :: b) (false :: us)=y :: lQ b us:=by rw [lQ];exact if_neg (by simp)
theorem V4:∀ b:List α,lQ b (List.replicate b.length false)=b
 | []=>rfl
 | y :: b=>by rw [ax,fZ,lQ,if_neg (by simp),V4 b]
def DJ (x : α):List α→List Bool→Nat→Option Nat
 | y :: b,u :: us,k=>if (!u&&same x y)=true then some k else DJ x b us (k+1)
 | _,_,_=>none
theorem Sc {b0:List α} {ER:List Bool} (hl:ER.length=b0.length) (x : α):∀ (n k:Nat),b0.length - k=n→k≤b0.length→fk (KN same b0 ER x) n k=DJ same x (b0.drop k) (ER.drop k) k
 | 0,k,h,hk=>by
  have:k=b0.length:=by omega
  subst this;rw [fk,aX];cases ER.drop b0.length<;>rfl
 | n+1,k,h,hk=>by
  have h1:k<b0.length:=by omega
  have h2:k<ER.length:=by omega
  have hg:ER.getD k false=ER[k]:=by simp [List.getD,h2]
  rw [fk,Y5 h1,hg,ao h1,ao h2,DJ,Sc hl x n (k+1) (by omega) (by omega)]
theorem Ss (x : α):∀ (b:List α) (us:List Bool) (k:Nat),us.length=b.length→(DJ same x b us k=none→xw same x (lQ b us)=none)∧∀ j,DJ same x b us k=some j→k≤j∧xw same x (lQ b us)=some (lQ b (us.set (j - k) true))
 | [],us,k,_=>by
  cases us<;>exact ⟨fun _=>rfl,fun j h=>by cases h⟩
 | y :: b,[],k,h=>by simp at h
 | y :: b,u :: us,k,h=>by
  obtain ⟨i1,i2⟩:=Ss x b us (k+1) (by simpa using h);rw [DJ];cases u with
  | true =>
   simp only [Bool.not_true,cE,bd,if_false];rw [lQ,if_pos rfl];refine ⟨i1,fun j hj=>?_⟩;obtain ⟨j1,j2⟩:=i2 j hj;refine ⟨by omega,?_⟩;rw [j2,show j - k=(j - (k+1))+1 by omega,cW,lQ,if_pos rfl]
  | false =>
   simp only [Bool.not_false,cG];rw [Rw,xw];cases hs:same x y with
   | true =>
    simp only [if_true];refine ⟨fun h=>(by cases h),fun j hj=>?_⟩;cases hj;refine ⟨ae _,?_⟩;rw [eV,dc,lQ,if_pos rfl]
   | false =>
    simp only [bd,if_false];refine ⟨fun h=>by rw [i1 h];rfl,fun j hj=>?_⟩;obtain ⟨j1,j2⟩:=i2 j hj;refine ⟨by omega,?_⟩;rw [j2,show j - k=(j - (k+1))+1 by omega,cW,Rw];rfl
theorem Nr (b0:List α):∀ (a:List α) (us:List Bool),us.length=b0.length→yF same b0 a us=dS same a (lQ b0 us)
 | [],_,_=>by rw [yF,dS]
 | x :: a,us,hl=>by
  rw [yF,dS];have e1:=Sc same hl x b0.length 0 (by omega) (au _);rw [dH,dH] at e1;obtain ⟨h1,h2⟩:=Ss same x b0 us 0 hl;rw [e1];cases hf:DJ same x b0 us 0 with
  | none=>rw [h1 hf];simp only;rw [Nr b0 a us hl]
  | some k =>
   rw [(h2 k hf).2];simp only [ie];rw [Nr b0 a (us.set k true) (by rw [bj];exact hl)]
theorem Cn (a b:List α):yF same b a (List.replicate b.length false)=dS same a b:=by
 rw [Nr same b a _ (by simp),V4]
theorem KV (x : α):∀ (b:List α) (n:Int),0≤n→(ei (fun y=>same x y) b n<0→xw same x b=none)∧(¬ ei (fun y=>same x y) b n<0→n≤ei (fun y=>same x y) b n∧xw same x b=some (b.take (ei (fun y=>same x y) b n - n).toNat++b.drop ((ei (fun y=>same x y) b n - n).toNat+1)))
 | [],n,_=>by rw [ei];exact ⟨fun _=>rfl,fun h=>by omega⟩
 | y :: b,n,hn=>by
  obtain ⟨i1,i2⟩:=KV x b (n+1) (by omega);rw [ei,xw];cases hs:same x y with
  | true =>
   simp only [if_true];refine ⟨fun h=>by omega,fun _=>⟨oF _,?_⟩⟩;rw [Int.sub_self];rfl
  | false =>
   simp only [bd,if_false];refine ⟨fun h=>by rw [i1 h];rfl,fun h=>?_⟩;obtain ⟨j1,j2⟩:=i2 h;refine ⟨by omega,?_⟩;rw [j2,show (ei (fun y=>same x y) b (n+1) - n).toNat=(ei (fun y=>same x y) b (n+1) - (n+1)).toNat+1 by omega,df,mW];rfl
end
theorem Jw:∀ a b:List Li,fh a b=dS fw a b
 | [],_=>by rw [fh,dS]
 | x :: a,b=>by
  rw [fh,dS];obtain ⟨h1,h2⟩:=KV fw x b 0 (oF _);split
  ·rename_i h;rw [h1 h];simp only;rw [Jw a b]
  ·rename_i h;rw [(h2 h).2,Int.sub_zero];simp only;rw [Jw a];rfl
theorem JE:∀ a b:List Tm,eI a b=dS u_ a b
 | [],_=>by rw [eI,dS]
 | x :: a,b=>by
  rw [eI,dS];obtain ⟨h1,h2⟩:=KV u_ x b 0 (oF _);have he:(fun y=>decide (x=y))=fun y=>u_ x y:=rfl;rw [he];split
  ·rename_i h;rw [h1 h];simp only;rw [JE a b]
  ·rename_i h;rw [(h2 h).2,Int.sub_zero];simp only;rw [JE a];rfl
theorem Fa {α:Type} (same : α→α→Bool):∀ (a b:List α), ∀ x∈dS same a b,x∈a
 | [],_,x,h=>by rw [dS] at h;cases h
 | y :: a,b,x,h=>by
  rw [dS] at h;split at h
  ·rcases aQ.1 h with rfl | h
   ·simp
   ·exact cR _ (Fa same a b x h)
  ·exact cR _ (Fa same a _ x h)
theorem U8 {α:Type} {f h : α→α→Bool} {a b:List α} (he:∀ x∈a, ∀ y∈b,f x y=h x y):qq f a b=qq h a b:=by
 have:∀ (b:List α),(∀ x∈a, ∀ y∈b,f x y=h x y)→(b.all fun y=>a.any fun x=>f x y)=b.all fun y=>a.any fun x=>h x y:=by
  intro b
  induction b with
  | nil=>intro _;rfl
  | cons y b ih =>
   intro hb;rw [kn,kn,ih fun x hx z hz=>hb x hx z (by simp [hz])];congr 1;have:∀ l:List α,(∀ x∈l,f x y=h x y)→(l.any fun x=>f x y)=l.any fun x=>h x y:=by
    intro l
    induction l with
    | nil=>intro _;rfl
    | cons z l ihl=>intro hz;rw [dC,dC,hz z (by simp),ihl fun x hx=>hz x (by simp [hx])]
   exact this a fun x hx=>hb x hx y (by simp)
 unfold qq;rw [this b he]
theorem Tt {α:Type} (p : α→Bool):∀ b:List α,(!b.any fun y=>!p y)=b.all p
 | []=>rfl
 | y :: b=>by
  rw [dC,kn,← Tt p b];cases p y<;>simp
theorem WZ {g:List Sy} {a b:List Tm} (ha:∀ x∈a,jd g x) (hb:∀ x∈b,jd g x):ni g a b=qq (Tm.gr g) a b:=by
 have h1:ni g a b=qq (fun x y=>decide (eG g x y=1)) a b:=by
  unfold ni qq;rw [Tt (fun y=>uY g a y),Bool.and_comm];rfl
 rw [h1];exact U8 fun x hx y hy=>Wu (ha x hx) (hb y hy)
theorem Yhb {g:List Sy} {a b:List Tm} (ha:∀ x∈a,jd g x) (hb:∀ x∈b,jd g x):qn g a b=wQ u_ (Tm.gr g) a b:=by
 unfold qn wQ;have m1:∀ x∈dS u_ a b,jd g x:=fun x hx=>ha x (Fa u_ a b x hx);have m2:∀ x∈dS u_ b a,jd g x:=fun x hx=>hb x (Fa u_ b a x hx);rw [JE,JE,Cn,Cn,WZ m1 m2,WZ m2 m1]
theorem YK {g:List Sy} {a b:Li} (ha:a.check g=0) (hb:b.check g=0) (ra:CY g a) (rb:CY g b):Al g a b=decide (B2 g a b=1):=by
 unfold Al qX B2;rw [if_neg (fun h=>h ha),if_neg (fun h=>h hb),Yhb (QY ra) (QY rb)];simp
theorem WC (g:List Sy) (a:List Li):∀ b:List Li,kR g a b=qq (Al g) a b
 | []=>by rw [kR];simp [qq]
 | y :: b=>by
  rw [kR,Yoj,WC g a b];cases a.any fun x=>Al g x y<;>simp
theorem WR {g:List Sy} {a b:List Li} (ha:∀ x∈a,x.check g=0∧CY g x) (hb:∀ x∈b,x.check g=0∧CY g x):kR g a b=qq (fun x y=>decide (B2 g x y=1)) a b:=by
 rw [WC];exact U8 fun x hx y hy=>YK (ha x hx).1 (hb y hy).1 (ha x hx).2 (hb y hy).2
theorem Rr {g:List Sy} {c:List Li} (h:iN g c):∀ x∈c,x.check g=0∧CY g x:=fun x hx=>⟨(w8 h.1).2.2 x hx,uE h hx⟩
theorem Ysq {g:List Sy} {a b:List Li} (ha:iN g a) (hb:iN g b):pC g a b=(vM g a b,0):=by
 unfold pC vM wQ;have m1:∀ x∈dS fw a b,x.check g=0∧CY g x:=fun x hx=>Rr ha x (Fa fw a b x hx);have m2:∀ x∈dS fw b a,x.check g=0∧CY g x:=fun x hx=>Rr hb x (Fa fw b a x hx);rw [if_neg (fun h=>h ha.1),if_neg (fun h=>h hb.1),Jw,Jw,Cn,Cn,WR m1 m2,WR m2 m1];split
 ·rfl
 split
 ·rfl
 split
 ·rfl
 ·rfl
section
variable {α:Type}
def eC (same : α→α→Bool) (x : α):List α→Nat
 | []=>0
 | y :: l=>(if same x y=true then 1 else 0)+eC same x l
structure px (same : α→α→Bool):Prop where
 refl:∀ x,same x x=true
 symm:∀ x y,same x y=true→same y x=true
 trans:∀ x y z,same x y=true→same y z=true→same x z=true
variable {same : α→α→Bool}
theorem px.congr (h:px same) {x y : α} (hs:same x y=true) (z : α):same z x=same z y:=by
 rw [dU];exact ⟨fun h1=>h.trans _ _ _ h1 hs,fun h1=>h.trans _ _ _ h1 (h.symm _ _ hs)⟩
theorem px.DH (h:px same) {x y : α} (hs:same x y=true) (z : α):same x z=same y z:=by
 rw [dU];exact ⟨fun h1=>h.trans _ _ _ (h.symm _ _ hs) h1,fun h1=>h.trans _ _ _ hs h1⟩
theorem T8 (h:px same) {x y : α} (hs:same x y=true):∀ l,eC same x l=eC same y l
 | []=>rfl
 | z :: l=>by rw [eC,eC,T8 h hs l,h.DH hs]
theorem GJ (h:px same) {x : α}:∀ {l:List α},x∈l→0<eC same x l
 | y :: l,hm=>by
  rw [eC];rcases aQ.1 hm with rfl | hm
  ·rw [if_pos (h.refl _)];omega
  ·have:=GJ h hm;omega
theorem Ju {x : α}:∀ {l:List α},0<eC same x l→∃ y∈l,same x y=true
 | y :: l,hp=>by
  rw [eC] at hp;by_cases hs:same x y=true
  ·exact ⟨y,by simp,hs⟩
  ·rw [if_neg hs] at hp;obtain ⟨z,h1,h2⟩:=Ju (x:=x) (l:=l) (by omega);exact ⟨z,by simp [h1],h2⟩
theorem RJ (h:px same) (x : α):∀ b:List α,(xw same x b=none→eC same x b=0)∧∀ b',xw same x b=some b'→∀ z,eC same z b=eC same z b'+if same z x=true then 1 else 0
 | []=>⟨fun _=>rfl,fun b' h=>by rw [xw] at h;cases h⟩
 | y :: b=>by
  obtain ⟨i1,i2⟩:=RJ h x b;rw [xw];by_cases hs:same x y=true
  ·rw [if_pos hs];refine ⟨fun h=>(by cases h),fun b' e z=>?_⟩;cases e;rw [eC,h.congr hs z];omega
  ·rw [if_neg hs];constructor
   ·intro e;rw [eC,if_neg hs,i1 (by simpa using e)]
   ·intro b' e z;cases hr:xw same x b with
    | none=>rw [hr] at e;cases e
    | some b1 =>
     rw [hr] at e;cases e;rw [eC,eC,i2 b1 hr z];omega
theorem Ah (h:px same):∀ (a b:List α) (z : α),eC same z (dS same a b)=eC same z a - eC same z b
 | [],b,z=>by rw [dS,eC];omega
 | x :: a,b,z=>by
  obtain ⟨i1,i2⟩:=RJ h x b;rw [dS];cases hr:xw same x b with
  | none =>
   simp only
   rw [eC,eC,Ah h a b z];by_cases hs:same z x=true
   ·have:=T8 h hs b;rw [i1 hr] at this;rw [if_pos hs];omega
   ·rw [if_neg hs];omega
  | some b' =>
   simp only
   rw [Ah h a b' z,i2 b' hr z,eC];omega
variable {gt : α→α→Bool}
def yG (same gt : α→α→Bool):Prop:=∀ x x' y y',same x x'=true→same y y'=true→gt x y=gt x' y'
theorem Dp (h:px same) (hg:yG same gt) (a b:List α):qq gt a b=true↔(∀ y,0<eC same y b→∃ x,0<eC same x a∧gt x y=true)∧∃ x,0<eC same x a:=by
 unfold qq;rw [aB,a8,decide_eq_true_eq];constructor
 ·rintro ⟨h1,h2⟩;refine ⟨fun y hy=>?_,?_⟩
  ·obtain ⟨y',m,s⟩:=Ju hy;obtain ⟨x,m2,hx⟩:=bV.1 (h1 y' m);exact ⟨x,GJ h m2,by rw [hg x x y y' (h.refl _) s];exact hx⟩
  ·obtain ⟨x,l,rfl⟩:=List.exists_cons_of_length_pos h2;exact ⟨x,GJ h (by simp)⟩
 ·rintro ⟨h1,x0,h2⟩;refine ⟨fun y hy=>?_,?_⟩
  ·obtain ⟨x,c,hx⟩:=h1 y (GJ h hy);obtain ⟨x',m,s⟩:=Ju c;exact bV.2 ⟨x',m,by rw [← hg x x' y y s (h.refl _)];exact hx⟩
  ·obtain ⟨x',m,_⟩:=Ju h2;exact List.length_pos_of_mem m
theorem NR (h:px same) (a b:List α):a.length+b.length=0↔∀ x,eC same x a=0∧eC same x b=0:=by
 constructor
 ·intro e x;have e1:a=[]:=iE.1 (by omega);have e2:b=[]:=iE.1 (by omega);rw [e1,e2];exact ⟨rfl,rfl⟩
 ·intro e;have key:∀ l:List α,(∀ x,eC same x l=0)→l.length=0:=fun l hl=>by
   cases l with
   | nil=>rfl
   | cons x l=>have:=GJ h (x:=x) (l:=x :: l) (by simp);have:=hl x;omega
  rw [key a fun x=>(e x).1,key b fun x=>(e x).2]
theorem Ygv (h:px same) (hg:yG same gt) {a a' b b':List α} (h1:∀ x,eC same x a=eC same x a') (h2:∀ x,eC same x b=eC same x b'):wQ same gt a b=wQ same gt a' b':=by
 have e1:∀ x,eC same x (dS same a b)=eC same x (dS same a' b'):=fun x=>by rw [Ah h,Ah h,h1,h2]
 have e2:∀ x,eC same x (dS same b a)=eC same x (dS same b' a'):=fun x=>by rw [Ah h,Ah h,h1,h2]
 have o1:qq gt (dS same a b) (dS same b a)=qq gt (dS same a' b') (dS same b' a'):=by
  rw [dU,Dp h hg,Dp h hg];simp only [e1,e2]
 have o2:qq gt (dS same b a) (dS same a b)=qq gt (dS same b' a') (dS same a' b'):=by
  rw [dU,Dp h hg,Dp h hg];simp only [e1,e2]
 have o3:(dS same a b).length+(dS same b a).length=0↔(dS same a' b').length+(dS same b' a').length=0:=by
  rw [NR h,NR h];simp only [e1,e2]
 unfold wQ;simp only [Cn,o1,o2,o3]
end
theorem Yv5:px u_:=⟨fun x=>by simp [u_],fun x y h=>by simp [u_] at h ⊢;exact h.symm,fun x y z h1 h2=>by simp [u_] at h1 h2 ⊢;exact h1.trans h2⟩
theorem Ynj (gt:Tm→Tm→Bool):yG u_ gt:=fun x x' y y' h1 h2=>by
 simp [u_] at h1 h2;rw [h1,h2]
theorem Jn (a b:Li):fw a b=true↔a.neg=b.neg∧((a.l=b.l∧a.r=b.r)∨(a.l=b.r∧a.r=b.l)):=by simp [fw,mM]
theorem Yf7:px fw:=by
 refine ⟨fun x=>?_,fun x y h=>?_,fun x y z h1 h2=>?_⟩
 ·rw [Jn];exact ⟨rfl, .inl ⟨rfl,rfl⟩⟩
 ·rw [Jn] at h ⊢;rcases h with ⟨a,⟨b,c⟩ | ⟨b,c⟩⟩
  ·exact ⟨a.symm, .inl ⟨b.symm,c.symm⟩⟩
  ·exact ⟨a.symm, .inr ⟨c.symm,b.symm⟩⟩
 ·rw [Jn] at h1 h2 ⊢;rcases h1 with ⟨a,⟨b,c⟩ | ⟨b,c⟩⟩<;>rcases h2 with ⟨a',⟨b',c'⟩ | ⟨b',c'⟩⟩
  ·exact ⟨a.trans a', .inl ⟨b.trans b',c.trans c'⟩⟩
  ·exact ⟨a.trans a', .inr ⟨b.trans b',c.trans c'⟩⟩
  ·exact ⟨a.trans a', .inr ⟨b.trans c',c.trans b'⟩⟩
  ·exact ⟨a.trans a', .inl ⟨b.trans c',c.trans b'⟩⟩
theorem Ri {a b:Li} (h:fw a b=true) (x:Tm):eC u_ x (l7 a)=eC u_ x (l7 b):=by
 rw [Jn] at h;obtain ⟨e,⟨h1,h2⟩ | ⟨h1,h2⟩⟩:=h
 ·unfold l7;rw [e,h1,h2]
 ·unfold l7;rw [e,h1,h2];split<;>simp only [eC]<;>omega
theorem Ydy {g:List Sy} {a a' b b':Li} (h1:fw a a'=true) (h2:fw b b'=true):B2 g a b=B2 g a' b' :=
 Ygv Yv5 (Ynj _) (Ri h1) (Ri h2)
theorem Ymq (g:List Sy):yG fw fun x y=>decide (B2 g x y=1):=fun x x' y y' h1 h2=>by simp only [Ydy (g:=g) h1 h2]
mutual
def Tm.ap (f:Int→Tm):Tm→Tm
 | .mk h ts=>if h<0 then f (-1 - h) else .mk h (Tm.qV f ts)
def Tm.qV (f:Int→Tm):List Tm→List Tm
 | []=>[]
 | t :: ts=>t.ap f :: Tm.qV f ts
end
theorem GQ (f:Int→Tm):∀ ts,Tm.qV f ts=ts.map (Tm.ap f)
 | []=>rfl
 | t :: ts=>by simp [Tm.qV,GQ f ts]
theorem G3 {f:Int→Tm} {t:Tm} (h:t.head<0):t.ap f=f (-1 - t.head):=by
 cases t;rw [Tm.ap];exact if_pos h
theorem FB {f:Int→Tm} {t:Tm} (h:¬ t.head<0):t.ap f = .mk t.head (t.args.map (Tm.ap f)):=by
 cases t;rw [Tm.ap,GQ];exact if_neg h
mutual
theorem Dw (bs:List Bd):∀ t:Tm,t.pd bs=t.ap (nV bs)
 | .mk h ts=>by rw [Tm.pd,Tm.ap,R8 bs ts]
theorem R8 (bs:List Bd):∀ ts:List Tm,Tm.KL bs ts=Tm.qV (nV bs) ts
 | []=>rfl
 | t :: ts=>by rw [Tm.KL,Tm.qV,Dw bs t,R8 bs ts]
end
mutual
theorem R2 (bs:List Bd):∀ t:Tm,t.good=true→t.sub bs=t.ap (nV bs)
 | .mk h ts,hg=>by
  have ha:=yM hg;have hh:=(yO hg).2.2.2;simp only [Tm.head,Tm.args] at ha hh;rw [Tm.sub,Tm.ap,Q0 bs ts ha];split
  ·rename_i hn;rw [hh hn];unfold qJ nV;simp only [Tm.head];rw [show -1 - (-1 - h)=h by omega]
  ·rfl
theorem Q0 (bs:List Bd):∀ ts:List Tm,(∀ t∈ts,t.good=true)→Tm.tv bs ts=Tm.qV (nV bs) ts
 | [],_=>rfl
 | t :: ts,h=>by rw [Tm.tv,Tm.qV,R2 bs t (h t (by simp)),Q0 bs ts fun x hx=>h x (by simp [hx])]
end
mutual
theorem JD {f k:Int→Tm}:∀ t:Tm,t.dY (fun v=>f v=k v)→t.ap f=t.ap k
 | .mk h ts,hv=>by
  rw [Tm.dY] at hv;rw [Tm.ap,Tm.ap,VQ ts hv.2];split
  ·rename_i hn;exact hv.1 hn
  ·rfl
theorem VQ {f k:Int→Tm}:∀ ts:List Tm,Tm.fm (fun v=>f v=k v) ts→Tm.qV f ts=Tm.qV k ts
 | [],_=>rfl
 | t :: ts,hv=>by
  rw [Tm.fm] at hv;rw [Tm.qV,Tm.qV,JD t hv.1,VQ ts hv.2]
end
mutual
theorem K1 {f k:Int→Tm}:∀ t:Tm,t.good=true→t.ap f=t.ap k→t.dY (fun v=>f v=k v)
 | .mk h ts,hg,he=>by
  have ha:=yM hg;have hh:=(yO hg).2.2.2;simp only [Tm.head,Tm.args] at ha hh;rw [Tm.ap,Tm.ap] at he;rw [Tm.dY];by_cases hn:h<0
  ·rw [if_pos hn,if_pos hn] at he;exact ⟨fun _=>he,by rw [hh hn];trivial⟩
  ·rw [if_neg hn,if_neg hn] at he;injection he with _ he;exact ⟨fun h=>absurd h hn,QV ts ha he⟩
theorem QV {f k:Int→Tm}:∀ ts:List Tm,(∀ t∈ts,t.good=true)→Tm.qV f ts=Tm.qV k ts→Tm.fm (fun v=>f v=k v) ts
 | [],_,_=>trivial
 | t :: ts,hg,he=>by
  rw [Tm.qV,Tm.qV] at he;injection he with h1 h2;exact ⟨K1 t (hg t (by simp)) h1,QV ts (fun x hx=>hg x (by simp [hx])) h2⟩
end
theorem Tz {α β:Type} (k : α→β):∀ (a:List α), ∀ p∈a.zip (a.map k),k p.1=p.2
 | x :: a,p,h=>by
  rw [aK,iY] at h;rcases aQ.1 h with rfl | h
  ·rfl
  ·exact Tz k a p h
theorem Td {α β:Type} (k : α→β):∀ (a:List α) (b:List β),a.length=b.length→(∀ p∈a.zip b,k p.1=p.2)→a.map k=b
 | [],[],_,_=>rfl
 | x :: a,y :: b,hl,h=>by
  rw [aK,Td k a b (by simpa using hl) fun p hp=>h p (by rw [iY];simp [hp]),h (x,y) (by rw [iY];simp)]
theorem QC {f:Int→Tm}:∀ (S:List (Tm×Tm)) (m:List Bd),(∀ x∈S,x.1.ap f=x.2)→(∀ b∈m,f b.v=b.t)→∃ m',gU S m=some m'∧∀ b∈m',f b.v=b.t:=by
 intro S m
 induction S,m using gU.induct with
 | case1 m=>intro _ h;exact ⟨m,by rw [gU],h⟩
 | case2 x r m hv c hf he ih =>
  intro h1 h2;obtain ⟨m',a1,a2⟩:=ih (fun y hy=>h1 y (by simp [hy])) h2;exact ⟨m',by rw [gU,if_pos hv,hf];simp only [if_pos he];exact a1,a2⟩
 | case3 x r m hv c hf he =>
  intro h1 h2;refine absurd ?_ he;have e1:=h2 c (cb hf);have e2:=h1 x (by simp);have e3:=fV hf;simp only [beq_iff_eq] at e3;rw [G3 (by omega),← e3] at e2;rw [← e1,e2]
 | case4 x r m hv hf ih =>
  intro h1 h2;have e2:=h1 x (by simp);rw [G3 (by omega)] at e2;obtain ⟨m',a1,a2⟩:=ih (fun y hy=>h1 y (by simp [hy])) (fun b hb=>by
   rcases aY.1 hb with hb | hb
   ·exact h2 b hb
   ·rw [aL.1 hb];exact e2)
  exact ⟨m',by rw [gU,if_pos hv,hf];exact a1,a2⟩
 | case5 x r m hv hc =>
  intro h1 _;have e2:=h1 x (by simp);rw [FB (by omega)] at e2;rcases hc with hc | hc
  ·exact absurd (by rw [← e2];rfl) hc
  ·exact absurd (by rw [← e2];simp [Tm.args]) hc
 | case6 x r m hv hc ih =>
  intro h1 h2;have e2:=h1 x (by simp);rw [FB (by omega)] at e2;have e3:x.2.args=x.1.args.map (Tm.ap f):=by rw [← e2];rfl
  obtain ⟨m',a1,a2⟩:=ih (fun y hy=>by
   rcases aY.1 hy with hy | hy
   ·have hy:=dn.1 hy;rw [e3] at hy;exact Tz _ _ y hy
   ·exact h1 y (by simp [hy])) h2
  exact ⟨m',by rw [gU,if_neg hv,if_neg hc];exact a1,a2⟩
theorem Mx:∀ (S:List (Tm×Tm)) (m m':List Bd),gU S m=some m'→(∀ b∈m,b∈m')∧∀ f:Int→Tm,(∀ b∈m',f b.v=b.t)→∀ x∈S,x.1.ap f=x.2:=by
 intro S m
 induction S,m using gU.induct with
 | case1 m =>
  intro m' h;rw [gU] at h;cases h;exact ⟨fun _ h=>h,fun f _ x hx=>by cases hx⟩
 | case2 x r m hv c hf he ih =>
  intro m' h;rw [gU,if_pos hv,hf] at h;simp only [if_pos he] at h;obtain ⟨a1,a2⟩:=ih m' h;refine ⟨a1,fun f hb y hy=>?_⟩;rcases aQ.1 hy with rfl | hy
  ·have e3:=fV hf;simp only [beq_iff_eq] at e3;rw [G3 (by omega),← e3,hb c (a1 c (cb hf)),he]
  ·exact a2 f hb y hy
 | case3 x r m hv c hf he =>
  intro m' h;rw [gU,if_pos hv,hf] at h;simp only [if_neg he] at h;cases h
 | case4 x r m hv hf ih =>
  intro m' h;rw [gU,if_pos hv,hf] at h;simp only at h;obtain ⟨a1,a2⟩:=ih m' h;refine ⟨fun b hb=>a1 b (by simp [hb]),fun f hb y hy=>?_⟩;rcases aQ.1 hy with rfl | hy
  ·have:=hb ⟨-1 - y.1.head,y.2⟩ (a1 _ (by simp));rw [G3 (by omega)];exact this
  ·exact a2 f hb y hy
 | case5 x r m hv hc =>
  intro m' h;rw [gU,if_neg hv,if_pos hc] at h;cases h
 | case6 x r m hv hc ih =>
  intro m' h;rw [gU,if_neg hv,if_neg hc] at h;obtain ⟨a1,a2⟩:=ih m' h;refine ⟨a1,fun f hb y hy=>?_⟩;rcases aQ.1 hy with rfl | hy
  ·have e1:y.1.head=y.2.head:=jZ fun hn=>hc (.inl hn);have e2:y.1.args.length=y.2.args.length:=jZ fun hn=>hc (.inr hn);rw [FB (by omega),Td (Tm.ap f) _ _ e2 fun p hp=>a2 f hb p (ia _ (dn.2 hp))];exact KS e1 rfl
  ·exact a2 f hb y (lP _ hy)
theorem Yug {Q:Tm→Prop} (hQ:∀ t,Q t→∀ u∈t.args,Q u):∀ (S:List (Tm×Tm)) (m m':List Bd),gU S m=some m'→(∀ x∈S,x.1.good=true∧Q x.2)→(∀ b∈m,(0≤b.v∧b.v≤255)∧Q b.t)→∀ b∈m',(0≤b.v∧b.v≤255)∧Q b.t:=by
 intro S m
 induction S,m using gU.induct with
 | case1 m =>
  intro m' h _ h2;rw [gU] at h;cases h;exact h2
 | case2 x r m hv c hf he ih =>
  intro m' h h1 h2;rw [gU,if_pos hv,hf] at h;simp only [if_pos he] at h;exact ih m' h (fun y hy=>h1 y (by simp [hy])) h2
 | case3 x r m hv c hf he =>
  intro m' h;rw [gU,if_pos hv,hf] at h;simp only [if_neg he] at h;cases h
 | case4 x r m hv hf ih =>
  intro m' h h1 h2;rw [gU,if_pos hv,hf] at h;simp only at h;obtain ⟨g1,g2⟩:=h1 x (by simp);have gh:=yO g1;exact ih m' h (fun y hy=>h1 y (by simp [hy])) fun b hb=>by
   rcases aY.1 hb with hb | hb
   ·exact h2 b hb
   ·rw [aL.1 hb];exact ⟨⟨hv,by simp only;omega⟩,g2⟩
 | case5 x r m hv hc =>
  intro m' h;rw [gU,if_neg hv,if_pos hc] at h;cases h
 | case6 x r m hv hc ih =>
  intro m' h h1 h2;rw [gU,if_neg hv,if_neg hc] at h;obtain ⟨g1,g2⟩:=h1 x (by simp);refine ih m' h (fun y hy=>?_) h2;rcases aY.1 hy with hy | hy
  ·have hy:=dx (dn.1 hy);exact ⟨yM g1 _ hy.1,hQ _ g2 _ hy.2⟩
  ·exact h1 y (by simp [hy])
mutual
theorem UK {f:Int→Tm}:∀ (t u:Tm) (s:List Bd),t.ap f=u→(∀ b∈s,f b.v=b.t)→(kx t u s).2=true∧∀ b∈(kx t u s).1,f b.v=b.t
 | .mk h ts,u,s,he,hs=>by
  rw [kx];rw [Tm.ap] at he;by_cases hn:h<0
  ·rw [if_pos hn] at he ⊢;cases hf:s.find? (fun b=>b.v == -1 - h) with
   | some b =>
    have e1:=hs b (cb hf);have e3:=fV hf;simp only [beq_iff_eq] at e3;simp only
    refine ⟨?_,hs⟩;rw [decide_eq_true_eq,← e1,e3,he]
   | none =>
    simp only
    refine ⟨trivial,fun b hb=>?_⟩;rcases aY.1 hb with hb | hb
    ·exact hs b hb
    ·rw [aL.1 hb];exact he
  ·rw [if_neg hn] at he ⊢;subst he;rw [if_neg (show ¬ (h≠(Tm.mk h (Tm.qV f ts)).head∨ts.length≠(Tm.mk h (Tm.qV f ts)).args.length) from by simp [Tm.head,Tm.args,GQ])]
   exact Ul ts _ s (by rw [← GQ];rfl) hs
theorem Ul {f:Int→Tm}:∀ (ts us:List Tm) (s:List Bd),ts.map (Tm.ap f)=us→(∀ b∈s,f b.v=b.t)→(iB ts us s).2=true∧∀ b∈(iB ts us s).1,f b.v=b.t
 | [],_,s,_,hs=>by rw [iB];exact ⟨rfl,hs⟩
 | t :: ts,[],s,he,_=>by simp at he
 | t :: ts,u :: us,s,he,hs=>by
  rw [aK] at he;injection he with h1 h2;obtain ⟨a1,a2⟩:=UK t u s h1 hs;rw [iB,if_pos a1];exact Ul ts us _ h2 a2
end
mutual
theorem LM:∀ (t u:Tm) (s:List Bd),(kx t u s).2=true→(∀ b∈s,b∈(kx t u s).1)∧∀ f:Int→Tm,(∀ b∈(kx t u s).1,f b.v=b.t)→t.ap f=u
 | .mk h ts,u,s,he=>by
  rw [kx] at he ⊢;by_cases hn:h<0
  ·rw [if_pos hn] at he ⊢;cases hf:s.find? (fun b=>b.v == -1 - h) with
   | some b =>
    rw [hf] at he;simp only [decide_eq_true_eq] at he ⊢;refine ⟨fun _ h=>h,fun f hb=>?_⟩;have e3:=fV hf;simp only [beq_iff_eq] at e3;rw [Tm.ap,if_pos hn,← e3,hb b (cb hf),he]
   | none =>
    simp only
    refine ⟨fun b hb=>by simp [hb],fun f hb=>?_⟩;rw [Tm.ap,if_pos hn];exact hb ⟨-1 - h,u⟩ (by simp)
  ·rw [if_neg hn] at he ⊢;by_cases hc:h≠u.head∨ts.length≠u.args.length
   ·rw [if_pos hc] at he;cases he
   ·rw [if_neg hc] at he ⊢;have e1:h=u.head:=jZ fun hn=>hc (.inl hn);have e2:ts.length=u.args.length:=jZ fun hn=>hc (.inr hn);obtain ⟨a1,a2⟩:=TD ts u.args s e2 he;refine ⟨a1,fun f hb=>?_⟩;rw [Tm.ap,if_neg hn,GQ,a2 f hb];exact KS e1 rfl
theorem TD:∀ (ts us:List Tm) (s:List Bd),ts.length=us.length→(iB ts us s).2=true→(∀ b∈s,b∈(iB ts us s).1)∧∀ f:Int→Tm,(∀ b∈(iB ts us s).1,f b.v=b.t)→ts.map (Tm.ap f)=us
 | [],[],s,_,_=>by rw [iB];exact ⟨fun _ h=>h,fun _ _=>rfl⟩
 | t :: ts,u :: us,s,hl,he=>by
  rw [iB] at he ⊢;by_cases hg:(kx t u s).2=true
  ·rw [if_pos hg] at he ⊢;obtain ⟨a1,a2⟩:=LM t u s hg;obtain ⟨b1,b2⟩:=TD ts us _ (by simpa using hl) he;refine ⟨fun b hb=>b1 b (a1 b hb),fun f hb=>?_⟩;rw [aK,b2 f hb,a2 f fun b hx=>hb b (b1 b hx)]
  ·rw [if_neg hg] at he;cases he
end
mutual
theorem NU:∀ (t u:Tm) (s:List Bd),(s.map Bd.v).Nodup→((kx t u s).1.map Bd.v).Nodup
 | .mk h ts,u,s,hs=>by
  rw [kx];split
  ·split
   ·exact hs
   ·rename_i hf;rw [cY,fU];refine ⟨hs,by simp,fun u hu w hw=>?_⟩;simp only [aK,aV,aL] at hw;subst hw;obtain ⟨b,hb,rfl⟩:=cB.1 hu;intro e;exact absurd (by simpa using e) (iX.1 hf b hb)
  ·split
   ·exact hs
   ·exact Xb ts u.args s hs
theorem Xb:∀ (ts us:List Tm) (s:List Bd),(s.map Bd.v).Nodup→((iB ts us s).1.map Bd.v).Nodup
 | [],_,s,hs=>by rw [iB];exact hs
 | _ :: _,[],s,hs=>by rw [iB];exact hs
 | t :: ts,u :: us,s,hs=>by
  rw [iB];split
  ·exact Xb ts us _ (NU t u s hs)
  ·exact hs
end
theorem NB:∀ l:List Bd,(l.map Bd.v).Nodup→∀ b∈l,l.find? (fun c=>c.v==b.v)=some b
 | c :: l,h,b,hb=>by
  rw [aK,eT] at h;rw [qz];rcases aQ.1 hb with rfl | hb
  ·simp
  ·have eH:¬ c.v=b.v:=fun e=>h.1 (by rw [e];exact cB.2 ⟨b,hb,rfl⟩);rw [show (c.v==b.v)=false from by simp [eH]]
   exact NB l h.2 b hb
theorem Yo2 {l:List Bd} (h:(l.map Bd.v).Nodup) (v:Int):l.reverse.find? (fun c=>c.v==v)=l.find? (fun c=>c.v==v):=by
 cases hf:l.find? (fun c=>c.v==v) with
 | some b =>
  have e3:=fV hf;simp only [beq_iff_eq] at e3;have:=NB l.reverse (by rw [List.map_reverse];exact (List.reverse_perm _).nodup_iff.2 h) b (dn.2 (cb hf))
  rwa [e3] at this
 | none =>
  rw [iX] at hf ⊢;exact fun x hx=>hf x (dn.1 hx)
theorem Ytr {l:List Bd} (h:(l.map Bd.v).Nodup) (v:Int):nV l.reverse v=nV l v:=by
 unfold nV;rw [Yo2 h]
theorem JX {l:List Bd} (h:(l.map Bd.v).Nodup):∀ b∈l,nV l b.v=b.t:=fun b hb=>by
 unfold nV;rw [NB l h b hb];rfl
theorem JZ {k:Int→Option Bd} (hk:∀ w b,k w=some b→b.v=w) (v:Int):∀ L:List Int,(L.filterMap k).find? (fun c=>c.v==v)=if v∈L then k v else none
 | []=>by simp
 | w :: L=>by
  rw [List.filterMap_cons];cases hw:k w with
  | none =>
   simp only
   rw [JZ hk v L];by_cases e:v=w
   ·subst e;rw [hw];simp
   ·simp [aQ,e]
  | some b =>
   simp only
   rw [qz,JZ hk v L,hk w b hw];by_cases e:w=v
   ·subst e;simp [hw]
   ·rw [show (w==v)=false from by simp [e]]
    simp [aQ,gQ e]
theorem Se {t:Tm} {v:Int} (hg:t.good=true) (h0 : 0≤v) (h:t.head = -1 - v):t = .mk (-1 - v) []:=by
 have:=(yO hg).2.2.2 (by omega);cases t;simp only [Tm.head,Tm.args] at h this;rw [h,this]
def kP (m:List Bd) (v:Int):Option Bd:=match m.find? (fun c=>c.v==v) with | some c=>if c.t.head = -1 - v then none else some ⟨v,c.t⟩ | none=>none
theorem Ii (m:List Bd) (w:Int) (b:Bd) (h:kP m w=some b):b.v=w:=by
 unfold kP at h;split at h
 ·split at h
  ·cases h
  ·cases h;rfl
 ·cases h
theorem M7 (m:List Bd) (ks:List Int):jx m ks=ks.filterMap (kP m):=rfl
theorem Yit {m:List Bd} {ks:List Int} (O7:∀ b∈m,b.v∈ks) (hv:∀ b∈m,0≤b.v∧b.t.good=true) (v:Int):nV (jx m ks) v=nV m v:=by
 rw [M7];unfold nV;rw [JZ (Ii m)];unfold kP;cases hf:m.find? (fun c=>c.v==v) with
 | none=>simp
 | some c =>
  have hc:=cb hf;have e3:=fV hf;simp only [beq_iff_eq] at e3;rw [if_pos (by rw [← e3];exact O7 c hc)];simp only
  by_cases e:c.t.head = -1 - v
  ·rw [if_pos e];exact (Se (hv c hc).2 (by rw [← e3];exact (hv c hc).1) e).symm
  ·rw [if_neg e];rfl
def kD (s:List Bd) (v:Int):Option Bd:=if (nV s v).head = -1 - v then none else some ⟨v,nV s v⟩
theorem P6 (s:List Bd) (w:Int) (b:Bd) (h:kD s w=some b):b.v=w:=by
 unfold kD at h;split at h
 ·cases h
 ·cases h;rfl
theorem Ykf (s:List Bd):vN s=((List.range 256).map fun n:Nat=>(n:Int)).filterMap (kD s):=by
 unfold vN C2;rw [List.filterMap_map];rfl
theorem U5 {s:List Bd} (hg:∀ b∈s,b.t.good=true) {v:Int} (h0 : 0≤v) (h1:v≤255):nV (vN s) v=nV s v:=by
 rw [Ykf];have fD:v∈(List.range 256).map fun n:Nat=>(n:Int):=cB.2 ⟨v.toNat,cj.2 (by omega),by omega⟩;have e:nV (((List.range 256).map fun n:Nat=>(n:Int)).filterMap (kD s)) v=((kD s v).map Bd.t).getD (.mk (-1 - v) []):=by
  conv=>lhs;unfold nV
  rw [JZ (P6 s),if_pos fD]
 rw [e];unfold kD;by_cases c:(nV s v).head = -1 - v
 ·rw [if_pos c];have wE:(nV s v).good=true:=Yuc (P:=fun t=>t.good=true) hg (by
   simp only [Tm.good,Tm.fH,aS,oU,bw,bK,decide_eq_false_iff_not,db];refine ⟨⟨⟨.inr (by omega),by omega⟩,by omega⟩,by omega⟩)
  exact (Se wE h0 c).symm
 ·rw [if_neg c];rfl
theorem NQ {m:List Bd} (hm:∀ b∈m,(0≤b.v∧b.v≤255)∧b.t.check=0):∀ (ks:List Int) (a:Int),ks.Pairwise (· < ·)→(∀ v∈ks,a<v)→jP a (jx m ks)=0
 | [],_,_,_=>rfl
 | w :: ks,a,hp,ha=>by
  rw [List.pairwise_cons] at hp;rw [M7,List.filterMap_cons,← M7];cases hw:kP m w with
  | none=>exact NQ hm ks a hp.2 fun v hv=>ha v (by simp [hv])
  | some b =>
   simp only
   have hbv:=Ii m w b hw;unfold kP at hw;cases hf:m.find? (fun c=>c.v==w) with
   | none=>rw [hf] at hw;cases hw
   | some c =>
    rw [hf] at hw;simp only at hw;have e3:=fV hf;simp only [beq_iff_eq] at e3;have hc:=hm c (cb hf);by_cases e:c.t.head = -1 - w
    ·rw [if_pos e] at hw;cases hw
    ·rw [if_neg e] at hw;cases hw;have:=ha w (by simp);rw [jP,if_neg (by
      simp only
      rintro (h | h | h | h)
      ·omega
      ·omega
      ·exact h hc.2
      ·exact e h)]
     exact NQ hm ks w hp.2 hp.1
theorem Yma {l:List Int} (h:l.Nodup):(gO l).Pairwise (· < ·):=by
 have ht:∀ x y z:Int,decide (x≤y)=true→decide (y≤z)=true→decide (x≤z)=true:=fun x y z h1 h2=>by simp at *;omega
 have hc:∀ x y:Int,(decide (x≤y)||decide (y≤x))=true:=fun x y=>by simp;omega
 have h1:(gO l).Pairwise fun x y=>decide (x≤y)=true:=List.pairwise_mergeSort ht hc l;have h2:(gO l).Nodup:=(j8 l _).nodup_iff.2 h;refine (h1.and h2).imp fun {x y} h=>?_;have h3:=h.1;have h4:=h.2;simp only [decide_eq_true_eq] at h3;omega
theorem Vl {l:List Int} {v:Int}:v∈gO l↔v∈l:=(j8 l _).mem_iff
theorem Qz {t:Tm} (h:t.check=0):ux [t]=true:=by simp [ux,h]
theorem JJ {t:Tm} (h:t.check=0):jc [t]=false:=by simp [jc,h]
theorem Yce:∀ t:Tm,t.check=0→∀ u∈t.args,u.check=0:=fun t h u hu=>by
 obtain ⟨c1,c2,c3⟩:=ru h;have z1:=uD hu;have z2:=po t;have z3:=Ue hu;exact QM (by omega) (by omega) (yM c3 u hu)
theorem Sb (l u:Tm):(xL [l] [u]).2=(kx l u []).2∧((kx l u []).2=true→(xL [l] [u]).1=(kx l u []).1):=by
 have h:iB [l] [u] []=if (kx l u []).2=true then ((kx l u []).1,true) else ([],false):=by
  rw [iB];split
  ·rw [iB]
  ·rfl
 unfold xL;rw [h];by_cases c:(kx l u []).2=true
 ·simp [c]
 ·simp [c]
theorem Jz {l u:Tm} (hl:l.check=0) (hu:u.check=0) (fl:l.fit) (fu:u.fit) :
  (iq [l] [u]).2.2=0∧(ij [l] [u]).2.2=0∧(iq [l] [u]).2.1=(ij [l] [u]).2.1∧((ij [l] [u]).2.1=true→jP (-1) (ij [l] [u]).1=0∧l.pd (iq [l] [u]).1=u∧∀ r:Tm,r.good=true→within r l=true→r.sub (ij [l] [u]).1.reverse=r.pd (iq [l] [u]).1):=by
 obtain ⟨l1,_,l3⟩:=ru hl;obtain ⟨u1,_,u3⟩:=ru hu;have eD:iq [l] [u]=if (kx l u []).2=false then ([],false,0) else (vN (xL [l] [u]).1,true,0):=by
  unfold iq;rw [Qz hl,Qz hu,if_neg (by simp),(Sb l u).1]
 have eP:ij [l] [u]=match gU [(l,u)] [] with | none=>([],false,0) | some m=>(jx m (gO (m.map Bd.v)),true,0):=by
  unfold ij;rw [JJ hl,JJ hu,if_neg (by simp)];rfl
 cases hg:gU [(l,u)] [] with
 | none =>
  rw [hg] at eP;have:(kx l u []).2=false:=by
   cases hd:(kx l u []).2 with
   | false=>rfl
   | true =>
    obtain ⟨_,h2⟩:=LM l u [] hd;have h3:=h2 _ (JX (NU l u [] (by simp)));obtain ⟨m',h4,_⟩:=QC (f:=nV (kx l u []).1) [(l,u)] [] (fun x hx=>by rw [aL.1 hx];exact h3) (fun b hb=>by cases hb);rw [hg] at h4;cases h4
  rw [if_pos this] at eD;rw [eD,eP];exact ⟨rfl,rfl,rfl,fun h=>by cases h⟩
 | some m =>
  rw [hg] at eP;simp only at eP;have gx:zV [(l,u)]:=fun x hx=>by rw [aL.1 hx];exact ⟨fl,fu,by simp only;omega⟩
  have ph:=(R7 _ _ _ hg gx (fun b hb=>by cases hb) (by simp)).2.1;have BT:=Yug (Q:=fun t=>t.check=0) Yce _ _ _ hg (fun x hx=>by rw [aL.1 hx];exact ⟨l3,hu⟩) (fun b hb=>by cases hb);have hs:=(Mx _ _ _ hg).2 _ (JX ph) (l,u) (by simp);simp only at hs;obtain ⟨d1,d2⟩:=UK l u [] hs (fun b hb=>by cases hb);rw [if_neg (by rw [d1];simp),(Sb l u).2 d1] at eD;have vB:=(LM l u [] d1).2 _ (JX (NU l u [] (by simp)));have y6:l.dY fun v=>nV m v=nV (kx l u []).1 v:=K1 l l3 (hs.trans vB.symm);have r7:∀ b∈(kx l u []).1,b.t.good=true:=QD (P:=fun t=>t.good=true) (fun t h=>yM h) l u [] u3 (fun b hb=>by cases hb);have hP:∀ v,nV (jx m (gO (m.map Bd.v))) v=nV m v:=Yit (fun b hb=>Vl.2 (cB.2 ⟨b,hb,rfl⟩)) fun b hb=>⟨(BT b hb).1.1,(ru (BT b hb).2).2.2⟩;have Ht:jP (-1) (jx m (gO (m.map Bd.v)))=0:=NQ BT _ _ (Yma ph) fun v hv=>by
   obtain ⟨b,hb,rfl⟩:=cB.1 (Vl.1 hv);have:=(BT b hb).1;omega
  have Pl:=(Lk _ _ Ht).2;have FL:=Mq l l3;rw [eD,eP];refine ⟨rfl,rfl,rfl,fun _=>⟨Ht,?_,fun r hr hw=>?_⟩⟩
  ·rw [Dw];refine (JD l ?_).trans vB;rw [← yQ] at FL ⊢;exact fun v hv=>U5 r7 (FL v hv).1 (by have:=(FL v hv).2;omega)
  ·rw [R2 _ _ hr,Dw];refine JD r ?_;rw [← yQ] at y6 FL ⊢;intro v hv;have AF:v∈l.vars:=by
    unfold within at hw;exact of_decide_eq_true (a8.1 hw v hv)
   rw [Ytr Pl,hP,y6 v AF];exact (U5 r7 (FL v AF).1 (by have:=(FL v AF).2;omega)).symm
theorem Jj (g:List Sy) (t:Tm):n5 g t=t.cd g:=by
 unfold n5 Tm.cd iV;by_cases h : 0≤t.head
 ·by_cases h2:t.head<(g.length:Int)
  ·have hk:t.head.toNat<g.length:=by omega
   simp [h,h2,hk,List.getD]
  ·have hk:¬ t.head.toNat<g.length:=by omega
   simp [h,h2,hk]
 ·simp [h]
theorem LR {g:List Sy} (hs:eg g=true) {t:Tm} (h:t.head=0):t.cd g=true:=by
 have h1:=Ycf hs;have h2:=(LW hs).1;unfold isTrue at h1;simp only [aB] at h1;unfold Tm.cd iV;rw [h];simp only [aB,decide_eq_true_eq];refine ⟨⟨oF _,by omega⟩,?_⟩;have:g.getD (Int.toNat 0) Sy.qY=g.getD 0 Sy.qY:=rfl;rw [this];exact h1.2.2.2
theorem UZ {g:List Sy} {x y:Tm} (hx:x.term g=0) (hy:y.term g=0):(p_ x y).check g=0↔¬ ((x.cd g&&decide (y.head≠0))||(!x.cd g&&y.cd g))=true:=by
 unfold Li.check p_;simp only
 rw [if_neg (fun h=>h hx),if_neg (fun h=>h hy)];split
 ·simp_all
 ·simp_all
theorem Yo0 {g:List Sy} (hs:eg g=true) (l:Li):aZ g [l]=l.check g:=by
 unfold aZ;rw [if_neg (by rw [hs];simp),if_neg (by simp),dh,dh];split
 ·rfl
 ·rename_i h;exact (Decidable.not_not.1 h).symm
theorem WL {g:List Sy} {x y:Tm} (hs:eg g=true) (h0:x.cd g=true→x.head≠0) (h:aZ g [p_ y x]=0):aZ g [p_ x y]=0:=by
 obtain ⟨hy,hx⟩:=K5 h;rw [Yo0 hs] at h ⊢;rw [UZ hy hx] at h;rw [UZ hx hy];intro hn;apply h;simp only [bR,aB,decide_eq_true_eq,bw] at hn ⊢;rcases hn with ⟨a,b⟩ | ⟨a,b⟩
 ·cases hyt:y.cd g with
  | true=>exact .inl ⟨rfl,h0 a⟩
  | false=>exact .inr ⟨rfl,a⟩
 ·refine .inl ⟨b,fun e=>?_⟩;rw [LR hs e] at a;cases a
theorem Yrn {g:List Sy} {c:List Li} {u:Un} {t:Tm} {e:Li} {n:Int} (hc:iN g c) (hl:jd g u.l) (hr:jd g u.r) (ht:jd g t) (hb:e8 u=false) (he:il e n=(u.l,u.r)) :
  (xy g e n t c).2=(iM g c u t).2∧((iM g c u t).2=true→(xy g e n t c).1=(iM g c u t).1):=by
 unfold e8 at hb;simp only [bK,decide_eq_false_iff_not,dB] at hb;obtain ⟨rX,v7⟩:=hb;have hs:=Lp ht.1;have ig:=(mg hl.1).1;have FH:=(mg ht.1).1;have D6:=(ru (mg hr.1).1).2.2;obtain ⟨m1,m2,m3,m4⟩:=Jz ig FH hl.2 ht.2;unfold xy iM oT;rw [he];simp only
 rw [Jj,Jj];by_cases c1:u.l.cd g=t.cd g
 ·have n1:¬ (u.l.head=0∨u.l.cd g≠t.cd g∨within u.r u.l=false):=by
   rintro (h | h | h)
   ·exact rX h
   ·exact h c1
   ·rw [v7] at h;cases h
  have n2:¬ (u.l.cd g≠t.cd g):=fun h=>h c1;rw [if_neg n1,if_neg n2];have e1:mT u t=ij [u.l] [t]:=rfl;rw [e1];by_cases c2:(ij [u.l] [t]).2.1=true
  ·obtain ⟨k1,k2,k3⟩:=m4 c2;have n3:¬ ((iq [u.l] [t]).2.2≠0∨(iq [u.l] [t]).2.1=false):=by rw [m1,m3,c2];simp
   have n4:¬ ((ij [u.l] [t]).2.2≠0∨(ij [u.l] [t]).2.1=false):=by rw [m2,c2];simp
   rw [if_neg n3,if_neg n4,k2];have k4:=k3 u.r D6 v7;generalize hy:u.r.pd (iq [u.l] [t]).1=y;rw [hy] at k4;have ha:aT u t=if y.check=0 then (y,0) else (gG,y.check):=by
    unfold aT qW;rw [e1,k4,if_neg];rintro (h | h)
    ·exact h k1
    ·exact h (mg hr.1).1
   by_cases c3:y.term g=0
   ·have BU:=(mg c3).1;rw [if_pos BU] at ha;have F0:jd g y:=by
     have:=(K6 hr (p5 ht)).1;rw [ha] at this;exact ⟨c3,this⟩
    have hk:kT g u t=(eG g t y,0):=by
     unfold kT;rw [ha];have:fc g [t,y]=0:=by rw [fc,if_pos ht.1,fc,if_pos c3,fc]
     simp only [this,if_true]
    have hq:qT g u t c=pC g [p_ t y] c:=by unfold qT p_;rw [ha]
    rw [ha,hk,hq];simp only
    rw [if_neg (fun h:(0:Int)≠0=>h rfl)];by_cases c4:aZ g [p_ t y]=0
    ·rw [if_neg (fun h=>h.1 c4)];have Ay:iN g [p_ t y]:=⟨c4,fun l hl=>by rw [aL.1 hl];exact ⟨ht.2,F0.2⟩⟩;rw [Ysq Ay hc];have gx:=Wu ht F0;by_cases c5:eG g t y=1
     ·rw [c5] at gx ⊢;rw [← gx];by_cases c6:vM g [p_ t y] c = -1
      ·simp [c6]
      ·simp [c6]
     ·rw [show decide (eG g t y=1)=false from by simp [c5]] at gx
      rw [← gx];simp [c5]
    ·have c7:aZ g [p_ y t]≠0:=fun h=>c4 (WL hs (fun qF h0=>by
      rw [← c1] at qF;have hh:¬ u.l.head<0:=by
       unfold Tm.cd at qF;simp only [aB,decide_eq_true_eq] at qF;omega
      rw [Dw,FB hh] at k2;rw [← k2] at h0;exact rX h0) h)
     rw [if_pos ⟨c4,c7⟩];have:(pC g [p_ t y] c).2≠0:=by unfold pC;rw [if_pos c4];exact c4
     by_cases c5:eG g t y=1
     ·simp [c5,this]
     ·simp [c5]
   ·have c4:aZ g [p_ t y]≠0:=fun h=>c3 (K5 h).2;have c7:aZ g [p_ y t]≠0:=fun h=>c3 (K5 h).1;rw [if_pos ⟨c4,c7⟩];by_cases BU:y.check=0
    ·rw [if_pos BU] at ha;have hk:(kT g u t).2≠0:=by
      unfold kT;rw [ha];rw [fc,if_pos ht.1,fc,if_neg c3];exact c3
     rw [ha];simp [hk]
    ·rw [if_neg BU] at ha;rw [ha];simp [BU]
  ·have n3:(iq [u.l] [t]).2.2≠0∨(iq [u.l] [t]).2.1=false:=.inr (by rw [m3];simpa using c2);have n4:(ij [u.l] [t]).2.2≠0∨(ij [u.l] [t]).2.1=false:=.inr (by simpa using c2);rw [if_pos n3,if_pos n4];exact ⟨rfl,fun h=>by cases h⟩
 ·have n1:u.l.head=0∨u.l.cd g≠t.cd g∨within u.r u.l=false:=.inr (.inl c1);rw [if_pos n1,if_pos (show u.l.cd g≠t.cd g from c1)]
  exact ⟨rfl,fun h=>by cases h⟩
theorem Yvl {g:List Sy} {es:List (List Li)} {c:List Li} (hw:cQ g (c :: es)=0):xx g es c=dN g (cm es) c:=by
 unfold xx;exact if_neg (fun h=>h hw)
end Go.Proofs
namespace Go.Proofs
open Go Go.dm
attribute [local go_sem] Nat.reduceAdd Nat.reduceSub Nat.reduceMul Nat.reduceLeDiff Nat.reduceEqDiff Nat.reduceBEq Nat.reduceLT Nat.le_refl Int.natCast_zero Nat.sub_zero List.length_map Int.toNat_natCast Int.natCast_one Int.reduceEq Int.reduceLT Int.reduceLE Int.reduceNe Int.sub_zero Int.zero_add Int.toNat_one
end Go.Proofs
namespace Go.Proofs
open Go Go.dm
theorem R9 (g:List Sy) (t:Tm):t.gr g t=false:=by
 rw [K8,if_neg (fun h=>h rfl:¬ t.mV g≠t.mV g),if_neg (fun h=>h rfl:¬ t.head≠t.head),MQ]
 repeat' split
 all_goals rfl
theorem Nn {P:List Li→Prop} {S:List Li→List Li×Int×Bool×Int} (hP:∀ c,P c→(S c).2.2.2=0→(S c).2.2.1=true→P (S c).1):∀ (n:Nat) (c:List Li) (u:List Int),P c→(eY S n c u).2.2=0 →
  P (eY S n c u).1∧(S (eY S n c u).1).2.2.2=0∧(S (eY S n c u).1).2.2.1=false∧u.length≤(eY S n c u).2.1.length∧((S c).2.2.1=true→u.length<(eY S n c u).2.1.length)∧((S c).2.2.1=false→(eY S n c u).2.1=u)
 | 0,c,u,h,h0=>by rw [eY] at h0;cases h0
 | n+1,c,u,h,h0=>by
  rw [eY] at h0 ⊢;by_cases h1:(S c).2.2.2=0
  ·rw [if_neg (fun k=>k h1)] at h0 ⊢;by_cases h2:(S c).2.2.1=false
   ·rw [if_pos h2] at h0 ⊢;exact ⟨h,h1,h2,ae _,fun k=>(by rw [h2] at k;cases k),fun _=>rfl⟩
   ·rw [if_neg h2] at h0 ⊢;have uH:(S c).2.2.1=true:=by simpa using h2
    by_cases h3 : 200<u.length+1
    ·rw [if_pos h3] at h0;cases h0
    ·rw [if_neg h3] at h0 ⊢;obtain ⟨a1,a2,a3,a4,_⟩:=Nn hP n _ _ (hP c h h1 uH) h0;rw [az] at a4;simp only [ax,aS] at a4;exact ⟨a1,a2,a3,by omega,fun _=>by omega,fun k=>absurd k h2⟩
  ·rw [if_pos h1] at h0;exact absurd h0 h1
theorem JF {g:List Sy} {es:List (List Li)} {c:List Li} (h:su es c) (h0:(cL g es c).2.2=0):cQ g (c :: es)=0∧iN g (cL g es c).1∧cL g es (cL g es c).1=((cL g es c).1,[],0)∧decide (0<(cL g es c).2.1.length)=(xx g es c).2.2.1:=by
 have hw:cQ g (c :: es)=0:=by
  by_cases hw:cQ g (c :: es)=0
  ·exact hw
  ·unfold cL gH at h0;rw [if_pos hw] at h0;exact absurd h0 hw
 have hi:=Dr h hw;have e1:cL g es c=eY (dN g (cm es)) 201 c []:=by unfold cL gH;exact if_neg (fun k=>k hw)
 have e2:xx g es c=dN g (cm es) c:=Yvl hw;rw [e1] at h0;obtain ⟨a1,a2,a3,a4,a5,a6⟩:=Nn (P:=iN g) (fun d hd k0 _=>MX hi.2.1 hd k0) 201 c [] hi.1 h0;rw [e1,e2];generalize hx:(eY (dN g (cm es)) 201 c []).1=x at *
 refine ⟨hw,a1,?_,?_⟩
 ·have tf:cQ g (x :: es)=0:=by
   rw [cQ,if_neg (fun k=>k a1.1)];rw [cQ] at hw;split at hw
   ·rename_i h3;exact absurd hw h3
   ·exact hw
  have e3:cL g es x=eY (dN g (cm es)) 201 x []:=by unfold cL gH;exact if_neg (fun k=>k tf)
  rw [e3,eY,if_neg (fun k=>k a2),if_pos a3]
 ·cases hb:(dN g (cm es) c).2.2.1 with
  | true=>rw [decide_eq_true_eq];exact Nat.lt_of_le_of_lt (au _) (a5 hb)
  | false=>rw [a6 hb];rfl
mutual
theorem Ds (w:Wo) (f:Int→Int) (s:Int→Tm):∀ t:Tm,(t.ap s).val w f=t.val w fun v=>(s v).val w f
 | .mk h ts=>by
  rw [Tm.ap,Tm.val];split
  ·rfl
  ·rename_i hn;rw [Tm.val,if_neg hn,R_ w f s ts]
theorem R_ (w:Wo) (f:Int→Int) (s:Int→Tm):∀ (ts:List Tm) (a:Int),Tm.nI w f (Tm.qV s ts) a=Tm.nI w (fun v=>(s v).val w f) ts a
 | [],a=>rfl
 | t :: ts,a=>by rw [Tm.qV,Tm.nI,Tm.nI,Ds w f s t,R_ w f s ts]
end
mutual
theorem Dg (w:Wo) {f k:Int→Int}:∀ t:Tm,t.dY (fun v=>f v=k v)→t.val w f=t.val w k
 | .mk h ts,hv=>by
  rw [Tm.dY] at hv;rw [Tm.val,Tm.val,U_ w ts hv.2];split
  ·rename_i hn;exact hv.1 hn
  ·rfl
theorem U_ (w:Wo) {f k:Int→Int}:∀ (ts:List Tm),Tm.fm (fun v=>f v=k v) ts→∀ a:Int,Tm.nI w f ts a=Tm.nI w k ts a
 | [],_,a=>rfl
 | t :: ts,hv,a=>by
  rw [Tm.fm] at hv;rw [Tm.nI,Tm.nI,Dg w t hv.1,U_ w ts hv.2]
end
theorem Ra (w:Wo) (f:Int→Int) (u:Tm):∀ (ts:List Tm) (i:Nat) (h:i<ts.length) (_:u.val w f=(ts[i]).val w f) (a:Int),Tm.nI w f (ts.set i u) a=Tm.nI w f ts a
 | t :: ts,0,_,e,a=>by simp only [dc,Tm.nI];rw [e];rfl
 | t :: ts,i+1,h,e,a=>by simp only [cW,Tm.nI];exact Ra w f u ts i (by simpa using h) (by simpa using e) _
theorem Yyv (w:Wo) (f:Int→Int) (t:Tm):t.val w f=if t.head<0 then f (-1 - t.head) else (w.rows.getD t.head.toNat []).getD (Tm.nI w f t.args 0).toNat 0:=by cases t;rfl
theorem RE (w:Wo) (f:Int→Int):∀ (p:List Int) (t u v:Tm),t.og p=some v→u.val w f=v.val w f→(t.jD p u).val w f=t.val w f
 | [],t,u,v,h,e=>by rw [Tm.og] at h;cases h;rw [Tm.jD];exact e
 | n :: p,t,u,v,h,e=>by
  rw [Tm.og] at h;split at h
  ·cases h
  split at h
  ·rename_i h1 h2;have hg:t.args.getD n.toNat gG=t.args[n.toNat]:=by simp [List.getD,h2]
   have ih:=RE w f p _ u v h e;rw [Tm.jD,hg];have e2:(Tm.mk t.head (t.args.set n.toNat ((t.args[n.toNat]).jD p u))).val w f=if t.head<0 then f (-1 - t.head) else (w.rows.getD t.head.toNat []).getD (Tm.nI w f (t.args.set n.toNat ((t.args[n.toNat]).jD p u)) 0).toNat 0:=rfl
   rw [e2,Yyv w f t,Ra w f _ t.args n.toNat h2 ih]
  ·cases h
mutual
theorem Nv {p:Int→Prop} (s:Int→Tm):∀ t:Tm,t.good=true→((t.ap s).dY p↔t.dY fun v=>(s v).dY p)
 | .mk h ts,hg=>by
  have ha:=yM hg;have hh:=(yO hg).2.2.2;simp only [Tm.head,Tm.args] at ha hh;rw [Tm.ap,Tm.dY];by_cases hn:h<0
  ·rw [if_pos hn,hh hn,Tm.fm];simp [hn]
  ·rw [if_neg hn,Tm.dY,WM s ts ha];simp [hn]
theorem WM {p:Int→Prop} (s:Int→Tm):∀ ts:List Tm,(∀ t∈ts,t.good=true)→(Tm.fm p (Tm.qV s ts)↔Tm.fm (fun v=>(s v).dY p) ts)
 | [],_=>Iff.rfl
 | t :: ts,h=>by rw [Tm.qV,Tm.fm,Tm.fm,Nv s t (h t (by simp)),WM s ts fun x hx=>h x (by simp [hx])]
end
mutual
theorem MR {p q:Int→Prop} (h:∀ v,p v→q v):∀ t:Tm,t.dY p→t.dY q
 | .mk hd ts,hp=>by rw [Tm.dY] at hp ⊢;exact ⟨fun k=>h _ (hp.1 k),VB h ts hp.2⟩
theorem VB {p q:Int→Prop} (h:∀ v,p v→q v):∀ ts:List Tm,Tm.fm p ts→Tm.fm q ts
 | [],_=>trivial
 | t :: ts,hp=>by rw [Tm.fm] at hp ⊢;exact ⟨MR h t hp.1,VB h ts hp.2⟩
end
theorem Gr {p:Int→Prop}:∀ ts:List Tm,Tm.fm p ts↔∀ t∈ts,t.dY p
 | []=>by simp [Tm.fm]
 | t :: ts=>by rw [Tm.fm,Gr ts];simp
theorem M3 {q:Int→Prop}:∀ (p:List Int) (t u:Tm),t.dY q→u.dY q→(t.jD p u).dY q
 | [],t,u,_,hu=>by rw [Tm.jD];exact hu
 | n :: p,t,u,ht,hu=>by
  rw [Tm.jD];cases t with
  | mk hd ts =>
   rw [Tm.dY] at ht ⊢;simp only [Tm.args,Tm.head] at *
   refine ⟨ht.1,?_⟩;rw [Gr] at ht ⊢;intro x hx;rcases od hx with hx | rfl
   ·exact ht.2 x hx
   ·refine M3 p _ u ?_ hu;by_cases h2:n.toNat<ts.length
    ·rw [show ts.getD n.toNat gG=ts[n.toNat] by simp [List.getD,h2]];exact ht.2 _ (aC h2)
    ·rw [show ts.getD n.toNat gG=gG by simp [List.getD,h2]];exact ⟨fun h=>by omega,trivial⟩
theorem Xf {q:Int→Prop}:∀ (p:List Int) (t v:Tm),t.dY q→t.og p=some v→v.dY q
 | [],t,v,h,e=>by rw [Tm.og] at e;cases e;exact h
 | n :: p,t,v,h,e=>by
  rw [Tm.og] at e;split at e
  ·cases e
  split at e
  ·rename_i h1 h2;refine Xf p _ v ?_ e;cases t with
   | mk hd ts=>rw [Tm.dY,Gr] at h;exact h.2 _ (aC h2)
  ·cases e
def nY (g:List Sy) (t:Tm):Prop:=t.known g=true∧t.cd g=false
mutual
theorem Fl {g:List Sy} (s:Int→Tm):∀ t:Tm,t.good=true→(t.ap s).known g=true→(t.ap s).fE g=true→(t.head<0→(t.ap s).cd g=false)→t.dY fun v=>nY g (s v)
 | .mk h ts,hg,hk,ht,h0=>by
  have ha:=yM hg;have hh:=(yO hg).2.2.2;simp only [Tm.head,Tm.args] at ha hh h0;rw [Tm.dY];rw [Tm.ap] at hk ht h0;by_cases hn:h<0
  ·rw [if_pos hn] at hk ht h0;rw [hh hn];exact ⟨fun _=>⟨hk,h0 hn⟩,trivial⟩
  ·rw [if_neg hn] at hk ht;rw [Tm.known] at hk;rw [Tm.fE] at ht;simp only [bR,aB,decide_eq_true_eq] at hk;refine ⟨fun k=>absurd k hn,UJ s ts ha ?_ ht⟩;rcases hk with hk | hk
   ·exact absurd hk hn
   ·exact hk.2
theorem UJ {g:List Sy} (s:Int→Tm):∀ ts:List Tm,(∀ t∈ts,t.good=true)→Tm.d_ g (Tm.qV s ts)=true→Tm.eh g (Tm.qV s ts)=true→Tm.fm (fun v=>nY g (s v)) ts
 | [],_,_,_=>trivial
 | t :: ts,hg,hk,ht=>by
  rw [Tm.qV] at hk ht;rw [Tm.d_] at hk;rw [Tm.eh] at ht;simp only [aB,bw] at hk ht;rw [Tm.fm];exact ⟨Fl s t (hg t (by simp)) hk.1 ht.1.2 (fun _=>ht.1.1),UJ s ts (fun x hx=>hg x (by simp [hx])) hk.2 ht.2⟩
end
def sW (w:Wo) (f:Int→Int):Prop:=∀ v,0≤f v∧f v<w.size
theorem MZ {g:List Sy} {c:List Li} {u:Un} {t:Tm} (hl:jd g u.l) (hr:jd g u.r) (ht:jd g t) (hb:e8 u=false) (h:(iM g c u t).2=true) :
  ∃ s:Int→Tm,u.l.ap s=t∧(iM g c u t).1=u.r.ap s∧(u.l.head<0→t.cd g=false):=by
 unfold e8 at hb;simp only [bK,decide_eq_false_iff_not,dB] at hb;obtain ⟨rX,v7⟩:=hb;have ig:=(mg hl.1).1;have FH:=(mg ht.1).1;have D6:=(ru (mg hr.1).1).2.2;obtain ⟨m1,m2,m3,m4⟩:=Jz ig FH hl.2 ht.2;unfold iM oT at h ⊢;split at h
 ·cases h
 split at h
 ·cases h
 split at h
 ·cases h
 split at h
 ·cases h
 rename_i c1 c2 c3 c4;rw [if_neg c1,if_neg c2,if_neg c3,if_neg c4];simp only
 have e1:mT u t=ij [u.l] [t]:=rfl;have c5:(ij [u.l] [t]).2.1=true:=by
  rw [e1] at c2;cases hc:(ij [u.l] [t]).2.1 with
  | true=>rfl
  | false=>exact absurd (.inr hc) c2
 obtain ⟨k1,k2,k3⟩:=m4 c5;have k4:=k3 u.r D6 v7;rw [Dw] at k2 k4;refine ⟨_,k2,?_,fun hn=>?_⟩
 ·generalize hy:u.r.ap (nV (iq [u.l] [t]).1)=y at *
  have ha:aT u t=if y.check=0 then (y,0) else (gG,y.check):=by
   unfold aT qW;rw [e1,k4,if_neg];rintro (h | h)
   ·exact h k1
   ·exact h (mg hr.1).1
  by_cases BU:y.check=0
  ·rw [ha,if_pos BU]
  ·rw [ha,if_neg BU] at c3;exact absurd BU c3
 ·rw [Jj,Jj] at c1;rw [← Decidable.not_not.1 c1];have:decide (0≤u.l.head)=false:=by simp;omega
  unfold Tm.cd;rw [this];rfl
theorem Yfp {g:List Sy} {w:Wo} {c:List Li} {u:Un} {t:Tm} (hw:dO g w=true) (hl:jd g u.l) (hr:jd g u.r) (ht:jd g t) (hb:e8 u=false) (h:(iM g c u t).2=true)
  (hu:∀ f,sW w f→u.l.val w f=u.r.val w f) {f:Int→Int} (hf:sW w f):(iM g c u t).1.val w f=t.val w f:=by
 obtain ⟨s,h1,h2,h3⟩:=MZ hl hr ht hb h;have hs:=(yL hw).2.1;obtain ⟨t1,t2,t3⟩:=mg ht.1;have lK:=(ru (mg hl.1).1).2.2;have PQ:=Fl s u.l lK (by rw [h1];exact t2) (by rw [h1];exact t3) (by rw [h1];exact h3);have fD:∀ v,nY g (s v)→0≤(s v).val w f∧(s v).val w f<w.size:=fun v hv=>Jg hs hf _ (Nd hw _ hv.1 hv.2);have AH:within u.r u.l=true:=by
  unfold e8 at hb;simp only [bK,decide_eq_false_iff_not,dB] at hb;exact hb.2
 let k:Int→Int:=fun v=>if v∈u.l.vars then (s v).val w f else 0
 have PR:=(yQ (p:=fun v=>nY g (s v)) u.l).2 PQ;have hk:sW w k:=fun v=>by
  simp only [k];split
  ·rename_i hv;exact fD v (PR v hv)
  ·omega
 have e1:u.l.val w (fun v=>(s v).val w f)=u.l.val w k:=Dg w _ ((yQ _).1 fun v hv=>by simp only [k];rw [if_pos hv]);have e2:u.r.val w (fun v=>(s v).val w f)=u.r.val w k:=Dg w _ ((yQ _).1 fun v hv=>by
  have AF:v∈u.l.vars:=by
   unfold within at AH;exact of_decide_eq_true (a8.1 AH v hv)
  simp only [k];rw [if_pos AF])
 rw [h2,Ds,e2,← hu k hk,← e1,← Ds,h1]
theorem Ycs {g:List Sy} {c:List Li} {u:Un} {t:Tm} (hl:jd g u.l) (hr:jd g u.r) (ht:jd g t) (hb:e8 u=false) (h:(iM g c u t).2=true) {p:Int→Prop} (hp:t.dY p):(iM g c u t).1.dY p:=by
 obtain ⟨s,h1,h2,_⟩:=MZ hl hr ht hb h;have lK:=(ru (mg hl.1).1).2.2;have D6:=(ru (mg hr.1).1).2.2;rw [h2,Nv s _ D6];rw [← h1,Nv s _ lK] at hp;have AH:within u.r u.l=true:=by
  unfold e8 at hb;simp only [bK,decide_eq_false_iff_not,dB] at hb;exact hb.2
 refine (yQ _).1 fun v hv=>(yQ _).2 hp v ?_;unfold within at AH;exact of_decide_eq_true (a8.1 AH v hv)
def qv (w:Wo) (es:List (List Li)) (k:Int):Prop:=∀ f,sW w f→bz w f (es.getD k.toNat [])=true
theorem QO {u:Un}:∀ (es:List (List Li)) (i:Nat),u∈kJ es i→∃ (j:Nat) (h:j<es.length) (e:Li),u.off=((i+j:Nat):Int)∧es[j]=[e]∧e.neg=false∧((u.l=e.l∧u.r=e.r)∨(u.l=e.r∧u.r=e.l))
 | [],_,h=>by rw [kJ] at h;cases h
 | c :: es,i,h=>by
  rw [kJ] at h;rcases aY.1 h with h | h
  ·match c,h with
   | [],h=>cases h
   | e :: _ :: _,h=>cases h
   | [e],h =>
    unfold wi at h;simp only at h;cases hn:e.neg with
    | true=>rw [hn,if_pos rfl] at h;cases h
    | false =>
     rw [hn,if_neg (by simp)] at h;simp only [aQ,dW,or_false] at h;rcases h with rfl | rfl
     ·exact ⟨0,by simp,e,by simp,rfl,hn, .inl ⟨rfl,rfl⟩⟩
     ·exact ⟨0,by simp,e,by simp,rfl,hn, .inr ⟨rfl,rfl⟩⟩
  ·obtain ⟨j,hj,e,a1,a2,a3,a4⟩:=QO es (i+1) h;exact ⟨j+1,by simpa using hj,e,by rw [a1];omega,by simpa using a2,a3,a4⟩
theorem Yv7 {w:Wo} {es:List (List Li)} {u:Un} (hu:u∈cm es):e8 u=false∧0≤u.off∧u.off<es.length∧(qv w es u.off→∀ f,sW w f→u.l.val w f=u.r.val w f):=by
 unfold cm at hu;obtain ⟨h1,h2⟩:=qB.1 hu;obtain ⟨j,hj,e,a1,a2,a3,a4⟩:=QO es 0 h1;rw [bq] at a1;refine ⟨by simpa using h2,by omega,by omega,fun hh f hf=>?_⟩;have:=hh f hf;rw [a1,aR,show es.getD j []=es[j] by simp [List.getD,hj],a2] at this;simp [bz,Li.holds,a3] at this;rcases a4 with ⟨b1,b2⟩ | ⟨b1,b2⟩
 ·rw [b1,b2];exact this
 ·rw [b1,b2];exact this.symm
theorem RR {w:Wo} {f:Int→Int} {l:Li}:∀ (c:List Li) (j:Nat) (h:j<c.length),l.holds w f=c[j].holds w f→bz w f (c.set j l)=bz w f c
 | a :: c,0,_,e=>by simp only [dc,bz,dC];rw [e];rfl
 | a :: c,j+1,h,e=>by
  have ih:=RR (w:=w) (f:=f) (l:=l) c j (by simpa using h) (by simpa using e);simp only [cW,bz,dC] at ih ⊢;rw [ih]
def rQ (p:Int→Prop) (c:List Li):Prop:=∀ l∈c,l.l.dY p∧l.r.dY p
theorem Yio {g:List Sy} (w:Wo) {es:List (List Li)} {c:List Li} (hu:∀ u∈cm es,jd g u.l∧jd g u.r) (hc:iN g c) (h0:(dN g (cm es) c).2.2.2=0) (h1:(dN g (cm es) c).2.2.1=true) :
  (0≤(dN g (cm es) c).2.1∧(dN g (cm es) c).2.1<es.length)∧(∀ p,rQ p c→rQ p (dN g (cm es) c).1) ∧
  (dO g w=true→qv w es (dN g (cm es) c).2.1→∀ f,sW w f→bz w f (dN g (cm es) c).1=bz w f c):=by
 unfold dN lG at h0 h1 ⊢;rcases ET (TT g c) (cm es) (cJ c 0) with ⟨f1,_⟩ | ⟨k,hk,x,f1,f2,_⟩
 ·rw [f1] at h1;cases h1
 ·rw [f1] at h0 h1 ⊢;simp only at h0 h1 ⊢;split at h1
  ·rename_i CD;rw [if_pos CD];simp only
   obtain ⟨m1,m2,m3⟩:=I2 f2;have hs:=aC hk;obtain ⟨j,hj,g1,g2,g3⟩:=Dc c 0 _ hs;rw [bq] at g1;have gx:jd g ((cJ c 0)[k]).t:=Xc hc _ hs;obtain ⟨u1,u2,u3,u4⟩:=Yv7 (w:=w) m1;have hx:=hu _ m1;refine ⟨⟨u2,u3⟩,fun p hp=>?_,fun hw hh f hf=>?_⟩
   ·rw [m2,NI hj g1];have Ky:=hp _ (aC hj);have Kz:∀ b,(c[j].side b).dY p:=fun b=>by unfold Li.side;cases b;exact Ky.1;exact Ky.2
    have KB:((cJ c 0)[k]).t.dY p:=Xf _ _ _ (Kz _) g2;have hq:=Ycs hx.1 hx.2 gx u1 m3 KB;intro l hl;rcases od hl with hl | rfl
    ·exact hp l hl
    ·unfold Li.sy;split
     ·exact ⟨Ky.1,M3 _ _ _ (Kz _) hq⟩
     ·exact ⟨M3 _ _ _ (Kz _) hq,Ky.2⟩
   ·rw [m2,NI hj g1];have hq:=Yfp hw hx.1 hx.2 gx u1 m3 (u4 hh) hf;refine RR c j hj ?_;have e:=RE w f _ _ _ _ g2 hq;have e1:(TT g c x.1 (cJ c 0)[k]).1=(iM g c x.1 (cJ c 0)[k].t).1:=rfl;rw [e1];generalize (iM g c x.1 (cJ c 0)[k].t).1=y at *
    unfold Li.sy Li.holds;unfold Li.side at e ⊢;cases Ay:(cJ c 0)[k].rt<;>(rw [Ay] at e;simp only [bd,if_true,if_false] at e ⊢;rw [e])
  ·cases h1
def vr (v:Int):Tm:=.mk (-1 - v) []
def Tm.rn (r:Int→Int) (t:Tm):Tm:=t.ap fun v=>vr (r v)
structure qQ (r:Int→Int) (p:Int→Prop):Prop where
 inj:∀ v w,p v→p w→r v=r w→v=w
 pos:∀ v,p v→0≤r v∧r v≤255
 non:∀ v,p v→0≤v
theorem KU {r:Int→Int} {t:Tm} (h:t.head<0):t.rn r=vr (r (-1 - t.head)):=G3 h
theorem KW {r:Int→Int} {t:Tm} (h:¬ t.head<0):t.rn r = .mk t.head (t.args.map (Tm.rn r)):=FB h
theorem NJ {r:Int→Int} {t:Tm} (h:¬ t.head<0):(t.rn r).head=t.head∧(t.rn r).args=t.args.map (Tm.rn r):=by rw [KW h];exact ⟨rfl,rfl⟩
theorem TW {t:Tm} (hg:t.good=true) (h:t.head<0):t.args=[]:=by
 have:=(yO hg).2.2.2;exact this h
theorem UF {p:Int→Prop} {t:Tm} (h:t.dY p) (hn:t.head<0):p (-1 - t.head):=by
 cases t;rw [Tm.dY] at h;exact h.1 hn
theorem Yj3 {p:Int→Prop} {t:Tm} (h:t.dY p):∀ u∈t.args,u.dY p:=by
 cases t;rw [Tm.dY,Gr] at h;exact h.2
section
variable {r:Int→Int} {p:Int→Prop}
theorem TS (hr:qQ r p) {t:Tm} (hv:t.dY p):(t.rn r).head<0↔t.head<0:=by
 by_cases h:t.head<0
 ·rw [KU h];have:=(hr.pos _ (UF hv h)).1;have e:(vr (r (-1 - t.head))).head = -1 - r (-1 - t.head):=rfl;rw [e];constructor
  ·intro _;exact h
  ·intro _;omega
 ·rw [(NJ h).1]
theorem MY (hr:qQ r p) (g:List Sy):∀ t:Tm,t.dY p→(t.rn r).cd g=t.cd g:=fun t hv=>by
 by_cases h1:t.head<0
 ·have h2:=(TS hr hv).2 h1;have e1:decide (0≤(t.rn r).head)=false:=by simp;omega
  have e2:decide (0≤t.head)=false:=by simp;omega
  unfold Tm.cd;rw [e1,e2];rfl
 ·unfold Tm.cd;rw [(NJ h1).1]
mutual
theorem Gw (hr:qQ r p) (g:List Sy):∀ t:Tm,t.good=true→t.dY p→(t.rn r).size=t.size∧(t.rn r).depth=t.depth∧(t.rn r).good=true∧(t.rn r).known g=t.known g∧(t.rn r).fE g=t.fE g∧(t.rn r).mV g=t.mV g∧(t.rn r).fit
 | .mk h ts,hg,hv=>by
  by_cases h1:h<0
  ·rw [KU (t:=.mk h ts) h1];have a1:=TW hg h1;simp only [Tm.args,Tm.head] at a1;subst a1;have hp:=hr.pos _ (UF hv h1);simp only [Tm.head] at hp ⊢;have h2 : -1 - r (-1 - h)<0:=by omega
   refine ⟨rfl,rfl,?_,?_,rfl,?_,?_⟩
   ·simp only [vr,Tm.good,Tm.fH,aS,oU,bw,bK,decide_eq_false_iff_not,db];exact ⟨⟨⟨.inr (by omega),by omega⟩,by omega⟩,by omega⟩
   ·simp only [vr,Tm.known,decide_eq_true h2,decide_eq_true h1,fM]
   ·simp only [vr,Tm.mV];rw [if_pos h2,if_pos h1]
   ·exact ⟨by unfold mE;omega,trivial⟩
  ·have tG:=yM hg;have FX:=Yj3 hv;simp only [Tm.args] at tG FX;obtain ⟨b1,b2,b3,b4,b5,b6,b7⟩:=Vp hr g ts tG FX;have hh:=yO hg;rw [KW (t:=.mk h ts) h1];simp only [Tm.head,Tm.args] at hh ⊢;refine ⟨?_,?_,?_,?_,?_,?_,?_⟩
   ·rw [Tm.size,Tm.size,b1]
   ·rw [Tm.depth,Tm.depth,b2]
   ·rw [Tm.good] at hg ⊢;rw [aj,b3];simp only [aB] at hg ⊢;exact ⟨hg.1,trivial⟩
   ·rw [Tm.known,Tm.known,aj,b4]
   ·rw [Tm.fE,Tm.fE,b5]
   ·rw [Tm.mV,Tm.mV,if_neg h1,if_neg h1,b6]
   ·refine ⟨?_,b7⟩;have:=hh;unfold mE;omega
theorem Vp (hr:qQ r p) (g:List Sy):∀ ts:List Tm,(∀ t∈ts,t.good=true)→(∀ t∈ts,t.dY p)→Tm.bG (ts.map (Tm.rn r))=Tm.bG ts∧Tm.fW (ts.map (Tm.rn r))=Tm.fW ts∧Tm.fH (ts.map (Tm.rn r))=true∧Tm.d_ g (ts.map (Tm.rn r))=Tm.d_ g ts∧Tm.eh g (ts.map (Tm.rn r))=Tm.eh g ts∧(∀ n,Tm.qw g (ts.map (Tm.rn r)) n=Tm.qw g ts n)∧Tm.fits (ts.map (Tm.rn r))
 | [],_,_=>⟨rfl,rfl,rfl,rfl,rfl,fun _=>rfl,trivial⟩
 | t :: ts,hg,hv=>by
  obtain ⟨a1,a2,a3,a4,a5,a6,a7⟩:=Gw hr g t (hg t (by simp)) (hv t (by simp));obtain ⟨b1,b2,b3,b4,b5,b6,b7⟩:=Vp hr g ts (fun x hx=>hg x (by simp [hx])) (fun x hx=>hv x (by simp [hx]));have qF:=MY hr g t (hv t (by simp));rw [aK];refine ⟨?_,?_,?_,?_,?_,fun n=>?_,a7,b7⟩
  ·rw [Tm.bG,Tm.bG,a1,b1]
  ·rw [Tm.fW,Tm.fW,a2,b2]
  ·rw [Tm.fH,a3,b3];rfl
  ·rw [Tm.d_,Tm.d_,a4,b4]
  ·rw [Tm.eh,Tm.eh,a5,b5,qF]
  ·rw [Tm.qw,Tm.qw,a6,b6]
end
end
theorem Yip {l u:Tm} (hl:l.check=0) (hu:u.check=0) (fl:l.fit) (fu:u.fit):(ij [l] [u]).2.1=true↔∃ s:Int→Tm,l.ap s=u:=by
 obtain ⟨_,_,_,m4⟩:=Jz hl hu fl fu;constructor
 ·intro h;have:=(m4 h).2.1;rw [Dw] at this;exact ⟨_,this⟩
 ·rintro ⟨s,h⟩;obtain ⟨m',h4,_⟩:=QC (f:=s) [(l,u)] [] (fun x hx=>by rw [aL.1 hx];exact h) (fun b hb=>by cases hb);unfold ij;rw [JJ hl,JJ hu,if_neg (by simp)];have e:(List.zip [l] [u]).reverse=[(l,u)]:=rfl;rw [e,h4]
theorem Yyt {s k:Int→Tm} {l r:Tm} (hl:l.good=true) (hw:within r l=true) (h:l.ap s=l.ap k):r.ap s=r.ap k:=by
 have h1:=K1 l hl h;refine JD r ?_;rw [← yQ] at h1 ⊢;intro v hv;unfold within at hw;exact h1 v (of_decide_eq_true (a8.1 hw v hv))
def Cv (g:List Sy) (c:List Li) (t y:Tm):Prop:=aZ g [p_ t y]=0∧t.gr g y=true∧vM g [p_ t y] c = -1
theorem TQ {g:List Sy} {c:List Li} {u:Un} {t:Tm} (hc:iN g c) (hl:jd g u.l) (hr:jd g u.r) (ht:jd g t) (hb:e8 u=false) (s:Int→Tm) :
  (u.l.ap s=t∧u.l.cd g=t.cd g∧Cv g c t (u.r.ap s))↔(u.l.ap s=t∧iM g c u t=(u.r.ap s,true)):=by
 have yw:=hb;unfold e8 at hb;simp only [bK,decide_eq_false_iff_not,dB] at hb;obtain ⟨rX,v7⟩:=hb;have ig:=(mg hl.1).1;have FH:=(mg ht.1).1;have lK:=(ru ig).2.2;have hs:=Lp ht.1;obtain ⟨m1,m2,m3,m4⟩:=Jz ig FH hl.2 ht.2;obtain ⟨e1,e2⟩:=Yrn (e:=⟨false,u.l,u.r⟩) (n:=0) hc hl hr ht yw rfl;have hD:xy g ⟨false,u.l,u.r⟩ 0 t c=if u.l.head=0∨u.l.cd g≠t.cd g∨within u.r u.l=false then (t,false) else
   if (iq [u.l] [t]).2.2≠0∨(iq [u.l] [t]).2.1=false then (t,false) else
   if aZ g [p_ (u.l.pd (iq [u.l] [t]).1) (u.r.pd (iq [u.l] [t]).1)]≠0∧aZ g [p_ (u.r.pd (iq [u.l] [t]).1) (u.l.pd (iq [u.l] [t]).1)]≠0 then (t,false) else
   if (u.l.pd (iq [u.l] [t]).1).gr g (u.r.pd (iq [u.l] [t]).1)=false∨vM g [p_ (u.l.pd (iq [u.l] [t]).1) (u.r.pd (iq [u.l] [t]).1)] c≠-1 then (t,false) else (u.r.pd (iq [u.l] [t]).1,true):=rfl
 rw [hD] at e1 e2;refine and_congr_right fun y8=>?_;have hM:=(Yip ig FH hl.2 ht.2).2 ⟨s,y8⟩;obtain ⟨k1,k2,_⟩:=m4 hM;have k3:u.r.pd (iq [u.l] [t]).1=u.r.ap s:=by
  rw [Dw] at k2 ⊢;exact Yyt lK v7 (k2.trans y8.symm)
 rw [k2,k3] at e1 e2;generalize u.r.ap s=y at *
 have n3:¬ ((iq [u.l] [t]).2.2≠0∨(iq [u.l] [t]).2.1=false):=by rw [m1,m3,hM];simp
 by_cases c1:u.l.cd g=t.cd g
 ·have n1:¬ (u.l.head=0∨u.l.cd g≠t.cd g∨within u.r u.l=false):=by
   rintro (h | h | h)
   ·exact rX h
   ·exact h c1
   ·rw [v7] at h;cases h
  rw [if_neg n1,if_neg n3] at e1 e2;have hh:t.cd g=true→t.head≠0:=fun qF h0=>by
   rw [← c1] at qF;have hh:¬ u.l.head<0:=by
    unfold Tm.cd at qF;simp only [aB,decide_eq_true_eq] at qF;omega
   rw [← y8,FB hh] at h0;exact rX h0
  by_cases c2:aZ g [p_ t y]=0
  ·rw [if_neg (fun h=>h.1 c2)] at e1 e2;constructor
   ·rintro ⟨_,_,a2,a3⟩;have n4:¬ (t.gr g y=false∨vM g [p_ t y] c≠-1):=by
     rintro (h | h)
     ·rw [a2] at h;cases h
     ·exact h a3
    rw [if_neg n4] at e1 e2;have e3:=e2 e1.symm;exact Prod.ext e3.symm e1.symm
   ·intro h;rw [h] at e1;simp only at e1;split at e1
    ·cases e1
    ·rename_i n4;refine ⟨c1,c2,?_,?_⟩
     ·cases hg:t.gr g y with
      | true=>rfl
      | false=>exact absurd (.inl hg) n4
     ·by_cases h3:vM g [p_ t y] c = -1
      ·exact h3
      ·exact absurd (.inr h3) n4
  ·have c3:aZ g [p_ y t]≠0:=fun h=>c2 (WL hs hh h);rw [if_pos ⟨c2,c3⟩] at e1 e2;constructor
   ·rintro ⟨_,a1,_⟩;exact absurd a1 c2
   ·intro h;rw [h] at e1;cases e1
 ·have n1:u.l.head=0∨u.l.cd g≠t.cd g∨within u.r u.l=false:=.inr (.inl c1);rw [if_pos n1] at e1;constructor
  ·rintro ⟨h,_⟩;exact absurd h c1
  ·intro h;rw [h] at e1;cases e1
theorem VD {g:List Sy} {c:List Li} {u:Un} {t:Tm} (hc:iN g c) (hl:jd g u.l) (hr:jd g u.r) (ht:jd g t) (hb:e8 u=false):(iM g c u t).2=true↔∃ s:Int→Tm,u.l.ap s=t∧u.l.cd g=t.cd g∧Cv g c t (u.r.ap s):=by
 constructor
 ·intro h;obtain ⟨s,h1,h2,_⟩:=MZ hl hr ht hb h;exact ⟨s,(TQ hc hl hr ht hb s).2 ⟨h1,Prod.ext h2 h⟩⟩
 ·rintro ⟨s,h⟩;rw [((TQ hc hl hr ht hb s).1 h).2]
section
variable {α:Type} {same gt : α→α→Bool} {P : α→Prop} {f : α→α}
end
def Li.rn (r:Int→Int) (l:Li):Li:=⟨l.neg,l.l.rn r,l.r.rn r⟩
def AO (r:Int→Int) (c:List Li):List Li:=c.map (Li.rn r)
def Ip (p:Int→Prop) (t:Tm):Prop:=t.good=true∧t.dY p
def BX (p:Int→Prop) (l:Li):Prop:=Ip p l.l∧Ip p l.r
section
variable {r:Int→Int} {p:Int→Prop}
theorem Ylu (hr:qQ r p) {t:Tm} (h:Ip p t):(t.rn r).check=t.check:=by
 obtain ⟨a1,a2,a3,_⟩:=Gw hr [] t h.1 h.2;unfold Tm.check;rw [a1,a2,a3,h.1]
theorem QR (hr:qQ r p) (g:List Sy) {t:Tm} (h:Ip p t):(t.rn r).term g=t.term g:=by
 obtain ⟨_,_,_,a4,a5,_⟩:=Gw hr g t h.1 h.2;unfold Tm.term;rw [Ylu hr h,a4,a5]
theorem Yn8 (hr:qQ r p) {t:Tm} (h:Ip p t):(t.rn r).head=0↔t.head=0:=by
 by_cases h1:t.head<0
 ·have:=(TS hr h.2).2 h1;constructor<;>intro<;>omega
 ·rw [(NJ h1).1]
theorem ZS (hr:qQ r p) (g:List Sy) {l:Li} (h:BX p l):(l.rn r).check g=l.check g:=by
 unfold Li.check Li.rn;simp only [QR hr g h.1,QR hr g h.2,MY hr g _ h.1.2,MY hr g _ h.2.2,Yn8 hr h.2,ne_eq]
theorem RZ (hr:qQ r p) (g:List Sy):∀ {c:List Li},(∀ l∈c,BX p l)→dh g (AO r c)=dh g c
 | [],_=>rfl
 | l :: c,h=>by
  rw [show AO r (l :: c)=l.rn r :: AO r c from rfl,dh,dh,ZS hr g (h l (by simp)),RZ hr g fun x hx=>h x (by simp [hx])]
theorem Ydw (hr:qQ r p) (g:List Sy) {c:List Li} (h:∀ l∈c,BX p l):aZ g (AO r c)=aZ g c:=by
 unfold aZ;rw [RZ hr g h];simp [AO]
theorem Yru {g:List Sy} {c:List Li} (h:iN g c) (hp:rQ p c):∀ l∈c,BX p l:=fun l hl=>by
 obtain ⟨a1,a2⟩:=uE h hl;exact ⟨⟨(ru (mg a1.1).1).2.2,(hp l hl).1⟩,(ru (mg a2.1).1).2.2,(hp l hl).2⟩
theorem Y9 (hr:qQ r p) {g:List Sy} {c:List Li} (h:iN g c) (hp:rQ p c):iN g (AO r c):=by
 have hk:=Yru h hp;refine ⟨by rw [Ydw hr g hk];exact h.1,fun l hl=>?_⟩;obtain ⟨x,hx,rfl⟩:=cB.1 hl;exact ⟨(Gw hr g _ (hk x hx).1.1 (hk x hx).1.2).2.2.2.2.2.2,(Gw hr g _ (hk x hx).2.1 (hk x hx).2.2).2.2.2.2.2.2⟩
end
theorem Yz (g:List Sy) (t u:Tm):t.gr g u=true↔gZ t u=true∧(u.mV g<t.mV g∨(t.mV g=u.mV g∧0≤t.head∧0≤u.head∧(u.head<t.head∨(t.head=u.head∧Tm.td g t.args u.args=true)))):=by
 rw [K8];cases h1:gZ t u with
 | false=>simp
 | true =>
  rw [if_neg (by simp)];by_cases h2:t.mV g=u.mV g
  ·rw [if_neg (fun k=>k h2)];by_cases h3:t.head<0∨u.head<0
   ·rw [if_pos h3];constructor
    ·intro h;cases h
    ·rintro ⟨_,h | h⟩
     ·omega
     ·omega
   ·rw [if_neg h3];by_cases h4:t.head=u.head
    ·rw [if_neg (fun k=>k h4)];constructor
     ·intro h;exact ⟨rfl, .inr ⟨h2,by omega,by omega, .inr ⟨h4,h⟩⟩⟩
     ·rintro ⟨_,h | ⟨_,_,_,h | h⟩⟩
      ·omega
      ·omega
      ·exact h.2
    ·rw [if_pos h4,decide_eq_true_eq];constructor
     ·intro h;exact ⟨rfl, .inr ⟨h2,by omega,by omega, .inl h⟩⟩
     ·rintro ⟨_,h | ⟨_,_,_,h | h⟩⟩
      ·omega
      ·exact h
      ·exact absurd h.1 h4
  ·rw [if_pos h2,decide_eq_true_eq];constructor
   ·intro h;exact ⟨rfl, .inl h⟩
   ·rintro ⟨_,h | h⟩
    ·exact h
    ·exact absurd h.1 h2
mutual
theorem Wd (g:List Sy):∀ t u v:Tm,t.gr g u=true→u.gr g v=true→t.gr g v=true
 | .mk h ts,u,v,h1,h2=>by
  have h0:=fun us vs=>VJ g ts us vs;rw [Yz] at h1 h2 ⊢;obtain ⟨a1,a2⟩:=h1;obtain ⟨b1,b2⟩:=h2;refine ⟨?_,?_⟩
  ·rw [MD] at a1 b1 ⊢;exact fun w hw=>c_ (b1 w hw) (a1 w hw)
  ·rcases a2 with a2 | ⟨a2,a3,a4,a5⟩<;>rcases b2 with b2 | ⟨b2,b3,b4,b5⟩
   ·exact .inl (by omega)
   ·exact .inl (by omega)
   ·exact .inl (by omega)
   ·refine .inr ⟨by omega,a3,b4,?_⟩;rcases a5 with a5 | ⟨a5,a6⟩<;>rcases b5 with b5 | ⟨b5,b6⟩
    ·exact .inl (by omega)
    ·exact .inl (by omega)
    ·exact .inl (by omega)
    ·exact .inr ⟨by omega,h0 _ _ a6 b6⟩
theorem VJ (g:List Sy):∀ ts us vs:List Tm,Tm.td g ts us=true→Tm.td g us vs=true→Tm.td g ts vs=true
 | [],us,vs,h1,_=>by rw [Tm.td] at h1;cases h1
 | t :: ts,[],vs,h1,_=>by rw [Tm.td] at h1;cases h1
 | t :: ts,u :: us,[],_,h2=>by rw [Tm.td] at h2;cases h2
 | t :: ts,u :: us,v :: vs,h1,h2=>by
  rw [Tm.td] at h1 h2 ⊢;by_cases e1:t=u
  ·rw [if_pos e1] at h1;by_cases e2:u=v
   ·rw [if_pos e2] at h2;rw [if_pos (e1.trans e2)];exact VJ g ts us vs h1 h2
   ·rw [if_neg e2] at h2;rw [if_neg (by rw [e1];exact e2),e1];exact h2
  ·rw [if_neg e1] at h1;by_cases e2:u=v
   ·rw [← e2,if_neg e1];exact h1
   ·rw [if_neg e2] at h2;have h3:=Wd g t u v h1 h2;have h4:t≠v:=fun e=>by
     rw [← e,R9] at h3;cases h3
    rw [if_neg h4];exact h3
end
section
variable {α:Type} {same gt : α→α→Bool}
theorem Sw (hi:∀ x,gt x x=false) (ht:∀ x y z,gt x y=true→gt y z=true→gt x z=true):∀ l:List α,l≠[]→∃ m∈l, ∀ z∈l,gt z m=false
 | [],h=>absurd rfl h
 | [a],_=>⟨a,by simp,fun z hz=>by rw [aL.1 hz];exact hi a⟩
 | a :: b :: l,_=>by
  obtain ⟨m,h1,h2⟩:=Sw hi ht (b :: l) (by simp);cases hg:gt a m with
  | true =>
   refine ⟨a,by simp,fun z hz=>?_⟩;rcases aQ.1 hz with rfl | hz
   ·exact hi _
   ·cases sV:gt z a with
    | false=>rfl
    | true =>
     have:=h2 z hz;rw [ht z a m sV hg] at this;cases this
  | false =>
   refine ⟨m,by simp [h1],fun z hz=>?_⟩;rcases aQ.1 hz with rfl | hz
   ·exact hg
   ·exact h2 z hz
theorem Yme (hi:∀ x,gt x x=false) (ht:∀ x y z,gt x y=true→gt y z=true→gt x z=true) {a b:List α} (h1:qq gt a b=true) (h2:qq gt b a=true):False:=by
 unfold qq at h1 h2;rw [aB,a8,decide_eq_true_eq] at h1 h2;obtain ⟨m,k1,k2⟩:=Sw hi ht (a++b) (fun e=>by have h3:=h1.2;rw [(List.append_eq_nil_iff.1 e).1] at h3;exact absurd h3 (by simp));rcases aY.1 k1 with k1 | k1
 ·obtain ⟨x,e1,e2⟩:=bV.1 (h2.1 m k1);rw [k2 x (lP _ e1)] at e2;cases e2
 ·obtain ⟨x,e1,e2⟩:=bV.1 (h1.1 m k1);rw [k2 x (ia _ e1)] at e2;cases e2
theorem Ql {a b:List α} (h:wQ same gt a b=1):qq gt (dS same a b) (dS same b a)=true:=by
 unfold wQ at h;simp only [Cn] at h;split at h
 ·omega
 split at h
 ·assumption
 split at h
 ·omega
 ·omega
theorem Z1 {a b:List α} (h:wQ same gt a b = -1):qq gt (dS same b a) (dS same a b)=true:=by
 unfold wQ at h;simp only [Cn] at h;split at h
 ·omega
 split at h
 ·omega
 split at h
 ·assumption
 ·omega
theorem Yvp (h:px same) (hg:yG same gt) (ha:∀ x y,gt x y=true→gt y x=false) {e : α} {c c':List α} (hs:∀ x,eC same x c'≤eC same x c) (hm:wQ same gt [e] c' = -1):wQ same gt [e] c = -1:=by
 have hm:=Z1 hm;rw [Dp h hg] at hm;obtain ⟨m1,x1,m2⟩:=hm;simp only [Ah h] at m1 m2;have o1:qq gt (dS same c [e]) (dS same [e] c)=true:=by
  rw [Dp h hg];simp only [Ah h];refine ⟨fun y hy=>?_,x1,?_⟩
  ·have:=hs y;obtain ⟨x,k1,k2⟩:=m1 y (by omega);have:=hs x;exact ⟨x,by omega,k2⟩
  ·have:=hs x1;omega
 have o2:¬ qq gt (dS same [e] c) (dS same c [e])=true:=by
  rw [Dp h hg];simp only [Ah h];rintro ⟨n1,x0,n2⟩;have Ew:∀ z,0<eC same z [e] - eC same z c→same z e=true:=fun z hz=>by
   by_cases CU:same z e=true
   ·exact CU
   ·simp only [eC,if_neg CU] at hz;omega
  have:=hs x0;obtain ⟨x,k1,k2⟩:=m1 x0 (by omega);have:=hs x;obtain ⟨w,k3,k4⟩:=n1 x (by omega);have k5:=h.trans _ _ _ (Ew w k3) (h.symm _ _ (Ew x0 n2));rw [hg w x0 x x k5 (h.refl _)] at k4;rw [ha x x0 k2] at k4;cases k4
 have o3:¬ (dS same [e] c).length+(dS same c [e]).length=0:=by
  rw [NR h];intro k;have k:=(k x1).2;rw [Ah h] at k;have:=hs x1;omega
 unfold wQ;simp only [Cn];rw [if_neg o3,if_neg o2,if_pos o1]
end
theorem Ymc (g:List Sy) (x y:Li) (h:decide (B2 g x y=1)=true):decide (B2 g y x=1)=false:=by
 simp only [decide_eq_true_eq,decide_eq_false_iff_not] at h ⊢;intro k;exact Yme (R9 g) (Wd g) (Ql h) (Ql k)
def B3 (d c:List Li):Prop:=(∀ x,eC fw x d≤eC fw x c)∧∀ l∈d,l∈c
theorem Ymv {g:List Sy} {c d:List Li} {u:Un} {t:Tm} (hs:B3 d c) (hc:iN g c) (hd:iN g d) (hl:jd g u.l) (hr:jd g u.r) (ht:jd g t) (hb:e8 u=false) (h:(iM g d u t).2=true):(iM g c u t).2=true:=by
 obtain ⟨s,h1,h2,h3,h4,h5⟩:=(VD hd hl hr ht hb).1 h;exact (VD hc hl hr ht hb).2 ⟨s,h1,h2,h3,h4,Yvp Yf7 (Ymq g) (Ymc g) hs.1 h5⟩
theorem Lz {T:Un→nE→Tm×Bool} {s:nE}:∀ {us:List Un},gX T s us=none↔∀ u∈us,(T u s).2=false
 | []=>by simp [gX]
 | u :: us=>by
  rw [gX];cases h:(T u s).2 with
  | true=>simp [h]
  | false =>
   rw [if_neg (by simp),Lz];constructor
   ·intro k x hx;rcases aQ.1 hx with rfl | hx
    ·exact h
    ·exact k x hx
   ·intro k x hx;exact k x (by simp [hx])
theorem Ts {T:Un→nE→Tm×Bool} {us:List Un}:∀ {ss:List nE},kI T us ss=none↔∀ s∈ss, ∀ u∈us,(T u s).2=false
 | []=>by simp [kI]
 | s :: ss=>by
  rw [kI];cases h:gX T s us with
  | some x =>
   constructor
   ·intro k;cases k
   ·intro k;rw [Lz.2 (k s (by simp))] at h;cases h
  | none =>
   simp only
   rw [Ts];constructor
   ·intro k x hx;rcases aQ.1 hx with rfl | hx
    ·exact Lz.1 h
    ·exact k x hx
   ·intro k x hx;exact k x (by simp [hx])
theorem Mk:∀ (c:List Li) (i:Nat) (s:nE),s∈cJ c i↔∃ (j:Nat) (h:j<c.length),s∈lz (i+j) c[j]
 | [],i,s=>by simp [cJ]
 | l :: c,i,s=>by
  rw [cJ,aY,Mk c (i+1) s];constructor
  ·rintro (h | ⟨j,hj,h⟩)
   ·exact ⟨0,by simp,by simpa using h⟩
   ·exact ⟨j+1,by simpa using hj,by rw [show i+(j+1)=i+1+j by omega];simpa using h⟩
  ·rintro ⟨j,hj,h⟩;cases j with
   | zero=>exact .inl (by simpa using h)
   | succ j=>exact .inr ⟨j,by simpa using hj,by rw [show i+1+j=i+(j+1) by omega];simpa using h⟩
theorem Yb9 {i k:Nat} {l:Li} {s:nE} (h:s∈lz i l):∃ s'∈lz k l,s'.t=s.t:=by
 unfold lz di at h ⊢;rcases aY.1 h with h | h<;>obtain ⟨q,hq,rfl⟩:=cB.1 h
 ·exact ⟨_,ia _ (cB.2 ⟨q,hq,rfl⟩),rfl⟩
 ·exact ⟨_,lP _ (cB.2 ⟨q,hq,rfl⟩),rfl⟩
theorem Yfr {d c:List Li} (hs:∀ l∈d,l∈c) {s:nE} (h:s∈cJ d 0):∃ s'∈cJ c 0,s'.t=s.t:=by
 obtain ⟨j,hj,h1⟩:=(Mk d 0 s).1 h;obtain ⟨k,hk,e⟩:=e9.1 (hs _ (aC hj));rw [← e] at h1;obtain ⟨s',h2,h3⟩:=Yb9 (k:=0+k) h1;exact ⟨s',(Mk c 0 s').2 ⟨k,hk,h2⟩,h3⟩
def calm (g:List Sy) (us:List Un) (c:List Li):Prop:=kI (TT g c) us (cJ c 0)=none
theorem Wj {g:List Sy} {us:List Un} {c d:List Li} (hs:B3 d c) (hc:iN g c) (hd:iN g d) (hu:∀ u∈us,e8 u=false∧jd g u.l∧jd g u.r) (h:calm g us c):calm g us d:=by
 unfold calm at h ⊢;rw [Ts] at h ⊢;intro s vB u wb;obtain ⟨s',h1,h2⟩:=Yfr hs.2 vB;obtain ⟨b1,b2,b3⟩:=hu u wb;cases hb:(TT g d u s).2 with
 | false=>rfl
 | true =>
  have:=Ymv hs hc hd b2 b3 (Xc hd s vB) b1 hb;have k:=h s' h1 u wb;unfold TT at k;rw [h2,this] at k;cases k
theorem Yhs {g:List Sy} {us:List Un} {c:List Li}:calm g us c↔((dN g us c).2.2.2=0∧(dN g us c).2.2.1=false):=by
 unfold calm dN lG;cases h:kI (TT g c) us (cJ c 0) with
 | none=>simp
 | some x =>
  constructor
  ·intro k;cases k
  ·rintro ⟨k1,k2⟩;simp only at k1 k2;split at k2
   ·cases k2
   ·rename_i hc;rw [if_neg hc] at k1;exact absurd k1 hc
theorem Mv {g:List Sy} {es:List (List Li)} {c:List Li} (hw:cQ g (c :: es)=0):calm g (cm es) c↔(cL g es c).2.2=0∧(cL g es c).2.1=[]:=by
 have e1:cL g es c=eY (dN g (cm es)) 201 c []:=by unfold cL gH;exact if_neg (fun k=>k hw)
 rw [Yhs,e1];constructor
 ·rintro ⟨h1,h2⟩;rw [eY,if_neg (fun k=>k h1),if_pos h2];exact ⟨rfl,rfl⟩
 ·rintro ⟨h1,h2⟩;rw [eY] at h1 h2;by_cases h3:(dN g (cm es) c).2.2.2=0
  ·rw [if_neg (fun k=>k h3)] at h1 h2;refine ⟨h3,?_⟩;by_cases h4:(dN g (cm es) c).2.2.1=false
   ·exact h4
   ·rw [if_neg h4] at h1 h2;split at h1
    ·cases h1
    ·rename_i h5;rw [if_neg h5] at h2;have:=(Nn (P:=fun _=>True) (fun _ _ _ _=>trivial) 200 _ _ trivial h1).2.2.2.1;rw [h2] at this;simp at this
  ·rw [if_pos h3] at h1;exact absurd h1 h3
theorem Yif {g:List Sy} {es:List (List Li)} {c:List Li} (h:su es c) (h0:(cL g es c).2.2=0):calm g (cm es) (cL g es c).1:=by
 obtain ⟨hw,hx,e,_⟩:=JF h h0;have tf:cQ g ((cL g es c).1 :: es)=0:=by
  rw [cQ,if_neg (fun k=>k hx.1)];rw [cQ] at hw;split at hw
  ·rename_i h3;exact absurd hw h3
  ·exact hw
 rw [Mv tf,e];exact ⟨rfl,rfl⟩
def mz (l:Li):Bool:=decide (l.l=l.r)
def vJ (a b:Li):Bool:=decide (a.neg≠b.neg)&&mM a b
def iL:List Li→List Li→List Li
 | out,[]=>out
 | out,l :: c=>if ((out.any fun m=>fw l m)||(l.neg&&mz l))=true then iL out c else iL (out++[l]) c
def iK (c:List Li):List Li:=iL [] c
def pP:List Li→List Li→Bool
 | _,[]=>false
 | b,l :: c=>if ((b.any fun m=>vJ l m)||(!l.neg&&mz l))=true then true else pP (b++[l]) c
def kS (c:List Li):Bool:=pP [] c
def nn (b:List Bd) (p t:Tm):Option (List Bd):=gU [(p,t)] b
def iU (l:Li):Bool:=decide (l.l.head=0)||decide (l.r.head=0)
def la (b:List Bd) (a:Li) (x y:Tm) (F:List Bd→Bool):Bool:=match nn b a.l x with
 | none=>false
 | some m=>match nn m a.r y with
  | none=>false
  | some k=>F k
def mA (b:List Bd) (a l:Li) (F:List Bd→Bool):Bool:=if iU a≠iU l then false else la b a l.l l.r F||la b a l.r l.l F
def gF:Li:=⟨false,gG,gG⟩
def o7 (d:List Li):List Li→List Bool→List Bd→Bool
 | [],_,_=>true
 | a :: c,us,b=>(List.range d.length).any fun k=>!us.getD k false&&decide ((d.getD k gF).neg=a.neg)&&mA b a (d.getD k gF) fun m=>o7 d c (us.set k true) m
def rj (l:Li):Bool:=decide (l.l.check≠0)||decide (l.r.check≠0)
def jS (c d:List Li):Int:=if 32<c.length∨32<d.length then 2 else if (c.any rj||d.any rj)=true then 1 else 0
def jw (d:List Li):List Bool:=List.replicate d.length false
def sG (c d:List Li):Bool:=decide (c.length≤d.length)&&o7 d c (jw d) []
def nk (c d:List Li):Bool×Int:=if jS c d≠0 then (false,jS c d) else (sG c d,0)
def cutAt (c d:List Li) (k i:Nat):Bool:=decide ((c.getD i gF).neg≠(d.getD k gF).neg)&&mA [] (c.getD i gF) (d.getD k gF) fun m=>o7 d (c.eraseIdx i) ((jw d).set k true) m
def rT (c d:List Li):Option Nat:=(List.range d.length).find? fun k=>(List.range c.length).any fun i=>cutAt c d k i
def oi (c d:List Li):Int×Bool×Int:=if jS c d≠0 then (0,false,jS c d) else match rT c d with
 | some k=>((k:Int),true,0)
 | none=>(0,false,0)
theorem Mb:∀ (c out:List Li), ∀ x∈iL out c,x∈out∨x∈c
 | [],out,x,h=>.inl (by rw [iL] at h;exact h)
 | a :: c,out,x,h=>by
  rw [iL] at h;split at h
  ·exact (Mb c out x h).imp id (cR _)
  ·rcases Mb c _ x h with h | h
   ·rcases aY.1 h with h | h
    ·exact .inl h
    ·rw [aL.1 h];exact .inr (by simp)
   ·exact .inr (cR _ h)
theorem W5 {α:Type} (same : α→α→Bool) (x : α):∀ a b:List α,eC same x (a++b)=eC same x a+eC same x b
 | [],b=>by rw [bn,eC];omega
 | y :: a,b=>by rw [bp,eC,eC,W5 same x a b];omega
theorem MB (x:Li):∀ (c out:List Li),eC fw x (iL out c)≤eC fw x out+eC fw x c
 | [],out=>by rw [iL,eC];exact ae _
 | a :: c,out=>by
  rw [iL];split
  ·have:=MB x c out;rw [eC];omega
  ·have:=MB x c (out++[a]);rw [W5] at this;simp only [eC] at this ⊢;omega
theorem L6:∀ (c out:List Li),(iL out c).length≤out.length+c.length
 | [],out=>by rw [iL];simp
 | a :: c,out=>by
  rw [iL];split
  ·have:=L6 c out;rw [ax];omega
  ·have:=L6 c (out++[a]);rw [az] at this;simp only [ax,aS] at this ⊢;omega
theorem WD (c:List Li):B3 (iK c) c:=by
 refine ⟨fun x=>?_,fun l hl=>?_⟩
 ·have:=MB x c [];rw [eC] at this;unfold iK;omega
 ·rcases Mb c [] l hl with h | h
  ·cases h
  ·exact h
theorem Wi (c:List Li):(iK c).length≤c.length:=by have:=L6 c [];unfold iK;simpa using this
def p0:List Li→Prop
 | []=>True
 | l :: c=>(l.neg&&mz l)=false∧(∀ m∈c,fw m l=false)∧p0 c
theorem Ww:∀ a b:List Li,p0 (a++b)↔p0 a∧p0 b∧∀ x∈a, ∀ y∈b,fw y x=false
 | [],b=>by simp [p0]
 | l :: a,b=>by
  rw [bp,p0,p0,Ww a b];constructor
  ·rintro ⟨h1,h2,h3,h4,h5⟩;refine ⟨⟨h1,fun m hm=>h2 m (ia _ hm),h3⟩,h4,fun x hx y hy=>?_⟩;rcases aQ.1 hx with rfl | hx
   ·exact h2 y (lP _ hy)
   ·exact h5 x hx y hy
  ·rintro ⟨⟨h1,h2,h3⟩,h4,h5⟩;refine ⟨h1,fun m hm=>?_,h3,h4,fun x hx y hy=>h5 x (cR _ hx) y hy⟩;rcases aY.1 hm with hm | hm
   ·exact h2 m hm
   ·exact h5 l (by simp) m hm
theorem LF:∀ (c out:List Li),p0 out→p0 (iL out c)
 | [],out,h=>by rw [iL];exact h
 | a :: c,out,h=>by
  rw [iL];split
  ·exact LF c out h
  ·rename_i hn;simp only [bR,not_or,dw] at hn;refine LF c _ ((Ww out [a]).2 ⟨h,⟨hn.2,fun m hm=>(by cases hm),trivial⟩,fun x hx y hy=>?_⟩);rw [aL.1 hy];cases hs:fw a x with
   | false=>rfl
   | true =>
    have:=bV.2 ⟨x,hx,hs⟩;rw [hn.1] at this;cases this
theorem Vz (c:List Li):p0 (iK c):=LF c [] trivial
theorem Us:∀ {c:List Li} (k:Nat),p0 c→p0 (c.eraseIdx k)
 | [],k,h=>by simpa using h
 | l :: c,0,h=>by rw [List.eraseIdx_cons_zero];exact h.2.2
 | l :: c,k+1,h=>by
  rw [List.eraseIdx_cons_succ];exact ⟨h.1,fun m hm=>h.2.1 m (kp hm),Us k h.2.2⟩
theorem VP (c:List Li) (k:Nat):B3 (c.eraseIdx k) c:=by
 refine ⟨fun x=>?_,fun l hl=>kp hl⟩
 induction c generalizing k with
 | nil=>simp
 | cons a c ih =>
  cases k with
  | zero=>rw [List.eraseIdx_cons_zero,eC];omega
  | succ k=>rw [List.eraseIdx_cons_succ,eC,eC];have:=ih k;omega
theorem RM {g:List Sy} {d c:List Li} (hs:∀ l∈d,l∈c) (hl:d.length≤c.length) (hc:iN g c):iN g d:=by
 refine ⟨?_,fun l h=>hc.2 l (hs l h)⟩;obtain ⟨h1,h2,h3⟩:=w8 hc.1;unfold aZ;rw [if_neg (by rw [h1];simp),if_neg (by omega)];have key:∀ c:List Li,(∀ l∈c,l.check g=0)→dh g c=0:=by
  intro c
  induction c with
  | nil=>intro _;rfl
  | cons a c ih =>
   intro h;rw [dh,if_neg (fun k=>k (h a (by simp)))];exact ih fun l hl=>h l (by simp [hl])
 exact key d fun l h=>h3 l (hs l h)
theorem Q6 {g:List Sy} {c:List Li} (hc:iN g c):iN g (iK c):=RM (WD c).2 (Wi c) hc
theorem Yok {g:List Sy} {c:List Li} (k:Nat) (hc:iN g c):iN g (c.eraseIdx k):=RM (VP c k).2 (List.length_eraseIdx_le _ _) hc
end Go.Proofs
namespace Go.Proofs
open Go Go.dm
attribute [local go_sem] Nat.reduceAdd Nat.reduceSub Nat.reduceMul Nat.reduceLeDiff Nat.reduceEqDiff Nat.reduceBEq Nat.reduceLT Nat.le_refl Int.natCast_zero Nat.sub_zero List.length_map Int.toNat_natCast Int.natCast_one Int.reduceEq Int.reduceLT Int.reduceLE Int.reduceNe Int.sub_zero Int.zero_add Int.toNat_one
theorem Yr6 (l:Li) (h1:l.l.size<999999999) (h2:l.r.size<999999999):aD Tryz.prog 89 [l.aM] (.bool (rj l)):=by
 refine aD.begin (rs:=[.tmp 2]) (m:=12) 1000 Tryz.func89 rfl rfl rfl (by decide) trivial ?_;have c1:=Dd l.l h1;have c2:=Dd l.r h2;unfold rj;simp only [go_sem,kH];refine aq.bS [] (c1) (by (try simp only [cZ]);exact cx _ _ _) (by simp [go_sem,dG,bW]) ?_;simp only [bC,bN,bL,if_true];refine aG.go 1000 ?_
 by_cases e1:l.l.check=0
 ·simp only [go_sem,e1];refine aq.bS [] (c2) (by (try simp only [cZ]);exact cx _ _ _) (by simp [go_sem,dG,bW]) ?_;simp only [bC,bN,bL,if_true];refine aG.go 1000 ?_
  by_cases e2:l.r.check=0
  ·simp only [go_sem,e2]
  ·simp only [go_sem,e2]
 ·simp only [go_sem,e1]
theorem W2 (l:Li):aD Tryz.prog 131 [l.aM] (.bool (iU l)):=by
 refine aD.begin (rs:=[.tmp 2]) (m:=12) 1000 Tryz.func131 rfl rfl rfl (by decide) trivial ?_;unfold iU;by_cases e1:l.l.head=0
 ·simp only [go_sem,kH,e1]
 ·by_cases e2:l.r.head=0
  ·simp only [go_sem,kH,e1,e2]
  ·simp only [go_sem,kH,e1,e2]
def sK (L:List (List Li)):Int:=if (L.any fun c=>decide (32<c.length))=true then 2 else if (L.any fun c=>c.any rj)=true then 1 else 0
theorem Xk (c d:List Li):sK [c,d]=jS c d:=by
 unfold sK jS;simp
def EI (c:List Li):Prop:=(∀ l∈c,l.l.size<999999999∧l.r.size<999999999)∧c.length<2 ^ 62
theorem Vt (L:List (List Li)) (hL:∀ c∈L,EI c) (hl:L.length<1000000) :
  aD Tryz.prog 54 [.ps 1 (dp L)] (.int .i64 (sK L)):=by
 refine aD.begin (rs:=[.tmp 2]) (m:=27) 1000 Tryz.func54 rfl rfl rfl (by decide) trivial ?_;have hf:∀ e:List Li,EI e→aq Tryz.prog (.fn 63 [] []) [.ps 5 (lits e), .fn 89 [] []] [] (fun r σ'=>r = .bool (e.any rj)∧σ'=[]):=fun e he =>
  IF [] _ rj e he.2 trivial (by simp [go_sem]) fun i hi=>by
   obtain ⟨a1,a2⟩:=he.1 _ (aC hi);refine aq.bS [] (Yr6 e[i] a1 a2) (cx _ _ _) (by simp [go_sem,nt]) ?_;simp only [bC,if_true];trivial
 obtain ⟨Y,hY⟩:∃ Y,(L.any fun c=>decide (32<c.length))=Y:=⟨_,rfl⟩;obtain ⟨Z,hZ⟩:∃ Z,(L.any fun c=>c.any rj)=Z:=⟨_,rfl⟩;have hW:sK L=if Y=true then 2 else if Z=true then 1 else 0:=by unfold sK;rw [hY,hZ]
 rw [hW];simp only [go_sem];refine aG.cO (ι:={i:Nat // i≤L.length∧((L.drop i).any fun c=>decide (32<c.length))=Y}) 1000 (fun q=>fe 28 [(0, .ps 1 (dp L)),(2, .int .i64 0),(8, .ps 1 (dp L)),(9, .int .i64 L.length),(10, .int .i64 q.1)])
  (fun _=>[]) (fun q=>L.length - q.1) ⟨0,au _,by rw [dH];first | exact hY | exact hZ⟩ ?_ (fun _=>au _) ?_
 ·simp only [go_sem,fO,m9]
 ·rintro ⟨i,hi,aN⟩;by_cases bA:(i:Int)<L.length
  ·have aU:i<L.length:=by omega
   have hw:IntKind.i64.wrap ((i:Int)+1)=((i+1:Nat):Int):=by rw [dQ (by omega)];omega
   have g1:=Ae aU;rw [ao aU,dC] at aN;generalize L[i]=c at *
   by_cases hc:(32:Int)<c.length
   ·have r6:decide (32<c.length)=true:=by simp;omega
    rw [r6,fM] at aN;subst aN;rw [if_pos rfl];simp only [go_sem,bA,m9,g1,fR,hc];refine ⟨by omega,?_⟩;refine aG.go 1000 ?_;simp only [go_sem]
   ·have r6:decide (32<c.length)=false:=by simp;omega
    rw [r6,dk] at aN;simp only [go_sem,bA,m9,g1,fR,hc];refine ⟨by omega,⟨i+1,by omega,aN⟩,?_,by simp only;omega⟩;simp only [go_sem,fO,hw]
  ·have dZ:i=L.length:=by omega
   subst dZ;rw [aX,nr] at aN;subst aN;rw [if_neg (by simp)];simp only [go_sem,bA];refine aG.go 1000 ?_;simp only [go_sem];refine aG.cO (ι:={i:Nat // i≤L.length∧((L.drop i).any fun c=>c.any rj)=Z}) 1000 (fun q=>fe 28 [(2, .int .i64 0),(5, .fn 89 [] []),(18, .ps 1 (dp L)),(19, .int .i64 L.length),(20, .int .i64 q.1)])
    (fun _=>[]) (fun q=>L.length - q.1) ⟨0,au _,by rw [dH];first | exact hY | exact hZ⟩ ?_ (fun _=>au _) ?_
   ·simp only [go_sem,fO,m9]
   ·rintro ⟨i,hi,aN⟩;by_cases bA:(i:Int)<L.length
    ·have aU:i<L.length:=by omega
     have hw:IntKind.i64.wrap ((i:Int)+1)=((i+1:Nat):Int):=by rw [dQ (by omega)];omega
     have g1:=Ae aU;have hk:=hf _ (hL _ (aC aU));rw [ao aU,dC] at aN;generalize L[i]=c at *
     simp only [go_sem,bA,m9,g1];refine ⟨by omega,?_⟩;refine hk.mono ?_;rintro r σ' ⟨rfl,rfl⟩;cases hc:c.any rj with
     | true =>
      rw [hc,fM] at aN;subst aN;rw [if_pos rfl];refine aG.go 1000 ?_;simp only [go_sem];refine aG.go 1000 ?_;simp only [go_sem]
     | false =>
      rw [hc,dk] at aN;refine aG.go 1000 ?_;simp only [go_sem];refine ⟨⟨i+1,by omega,aN⟩,?_,by simp only;omega⟩;simp only [go_sem,fO,hw]
    ·have dZ:i=L.length:=by omega
     subst dZ;rw [aX,nr] at aN;subst aN;rw [if_neg (by simp)];simp only [go_sem,bA];refine aG.go 1000 ?_;simp only [go_sem]
theorem Yix (ks vs:List ah) (σ:ai) (hs:bD σ.length σ) (hk:bF 0 ks) (hv:bF 0 vs):aq Tryz.prog (.fn 158 [] []) [.pm ks vs] σ
  (fun r σ'=>r = .map σ.length∧σ' = σ++[some (.map ks vs false)]):=by
 have BH:∀ {n},bF n ks:=fun {n}=>iO (au n) hk;have hvn:∀ {n},bF n vs:=fun {n}=>iO (au n) hv;refine aq.begin (rs:=[.tmp 2]) (m:=8) 1000 Tryz.func158 rfl rfl rfl rfl rfl ?_;simp only [go_sem];refine aq.yd Tryz.func184 (by kernel_rfl) (by kernel_rfl) (by kernel_rfl) (by kernel_rfl) ?_;refine aG.go 1000 ?_;simp only [go_sem];rw [gC];refine ⟨_,f_ _,by simp,pS (oe (by simp) hs) ?_,?_,rfl,rfl⟩
 ·simp [go_sem,BH,hvn]
 ·simp [go_sem]
def mapA:Option (List Bd)→ah
 | none=>.cM
 | some m=>.pm (fS m) (gE m)
theorem Yo3 (o:Option (List Bd)):(mapA o).low 0:=by
 cases o with
 | none=>trivial
 | some m=>exact ⟨(jf m).1,(jf m).2⟩
set_option maxHeartbeats 1000000 in
theorem W_ (b:List Bd) (p t:Tm) (hp:p.fit) (Kz:p.size<99999999) (sT:t.size<99999999) (hb:∀ x∈b,x.t.size<99999999) :
  aD Tryz.prog 132 [.pm (fS b) (gE b),p.aM,t.aM] (mapA (nn b p t)):=by
 refine aD.begin (rs:=[.tmp 6]) (m:=83) 1000 Tryz.func132 rfl rfl rfl (by decide) (Yo3 _) ?_;obtain ⟨g,hg⟩:∃ g,nn b p t=g:=⟨_,rfl⟩;rw [hg];unfold nn at hg;simp only [go_sem,fL];refine (Yix _ _ _ (by simp [go_sem,bW]) (jf b).1 (jf b).2).mono ?_;rintro r σ' ⟨rfl,rfl⟩;refine aG.go 1000 ?_;simp only [go_sem,bp,bn,ax,aS];refine aG.draw [⟨none,[],[4]⟩,⟨some 3,[3],[4]⟩,⟨none,[],[3]⟩,⟨some 4,[4],[3]⟩,⟨none,[],[4]⟩] 3 5 mixed rfl rfl (by decide) ?_;simp only [go_sem,da];refine aG.go 1000 ?_;simp only [go_sem];have hA1:oR [(p,t)]=[.agg [.int .i64 p.head, .ps 2 (p.args.map Tm.aM)]]:=by simp [oR,cZ]
 have hB1:oS [(p,t)]=[.agg [.int .i64 t.head, .ps 2 (t.args.map Tm.aM)]]:=by simp [oS,cZ]
 refine aG.gf (ι:={q:List (Tm×Tm)×List ah×List ah×List Bd // gU q.1 q.2.2.2=g∧bF 0 q.2.1∧bF 0 q.2.2.1∧lU q.1≤p.size∧(∀ x∈q.1,x.1.fit∧x.2.size<99999999)∧(∀ x∈q.2.2.2,x.t.size<99999999)}) 1000
  (fun q=>fe 86 [(6, .cM),(7, .map 2),(8, .os 3 0 q.1.1.length 2),(9, .os 4 0 q.1.1.length 2)])
  (fun q=>[none,none,some (.map (fS q.1.2.2.2) (gE q.1.2.2.2) false),some (.row (oR q.1.1++q.1.2.1) 0),some (.row (oS q.1.1++q.1.2.2.1) 0)]) (fun q=>lU q.1.1) ⟨([(p,t)],[],[],b),hg,trivial,trivial,by simp [lU],fun x hx=>by rw [aL.1 hx];exact ⟨hp,sT⟩,hb⟩ [] ?_ (fun _=>by simp) ?_
 ·refine iz rfl ?_;dsimp only
  rw [hA1,hB1];simp only [go_sem,jf,cK (jf _).1,cK (jf _).2,bW,cK (bW _),bu]
 ·rintro ⟨⟨s,j1,j2,m⟩,h1,h2,h3,h4,h5,h6⟩;simp only at h1 h2 h3 h4 h5 h6;cases s with
  | nil =>
   rw [gU] at h1;subst h1;simp only [go_sem,aS];refine aG.go 1000 ?_;simp only [go_sem,mapA]
  | cons x r =>
   obtain ⟨Ic,xk⟩:=h5 x (by simp);have Eo:∀ y∈r,y.1.fit∧y.2.size<99999999:=fun y hy=>h5 y (by simp [hy]);have FT:=NT r;rw [lU] at h4;have yA:=A5 x.1;have CI:=GG Ic;unfold mE at CI;have rh:IntKind.i64.wrap ((r.length:Int)+1 - 1)=r.length:=by rw [dQ (by omega)];omega
   have ou:(0:Int)<r.length+1:=by omega
   have uL:IntKind.i64.wrap (-1 - x.1.head) = -1 - x.1.head:=dQ (by omega);have hA:oR (x :: r)++j1=oR r++x.1.aM :: j1:=by rw [Qw];simp
   have hB:oS (x :: r)++j2=oS r++x.2.aM :: j2:=by rw [Qp];simp
   have OV:(oR r++x.1.aM :: j1).getD r.length .undef=x.1.aM:=by rw [← Fy r];simp [List.getD]
   have OW:(oS r++x.2.aM :: j2).getD r.length .undef=x.2.aM:=by rw [← Fx r];simp [List.getD]
   have HN:(oR r++x.1.aM :: j1).length=r.length+1+j1.length:=by simp [Fy];omega
   have HO:(oS r++x.2.aM :: j2).length=r.length+1+j2.length:=by simp [Fx];omega
   simp only [go_sem,ax,hA,hB,eR,eS,ou,rh];refine aG.draw [⟨none,[],[5,6]⟩,⟨none,[],[5,6]⟩,⟨none,[],[5,6]⟩,⟨none,[],[5,6]⟩,⟨none,[],[5,6]⟩,⟨none,[],[5,6]⟩,⟨none,[],[5,6]⟩,⟨none,[],[5,6]⟩,⟨some 5,[5],[6]⟩,⟨some 6,[6],[5]⟩,⟨none,[5],[]⟩,⟨none,[6],[]⟩] 5 7 mixed rfl rfl (by decide) ?_;simp only [go_sem,da,HN,HO,OV,OW,fL];refine ⟨⟨by omega,by omega⟩,by omega,⟨by omega,by omega⟩,by omega,?_⟩;refine aG.go 1000 ?_;refine aG.draw [] 7 7 mixed rfl rfl (by decide) ?_;simp only [go_sem,da];refine ⟨by omega,by omega,?_⟩;have hl:∀ n,bF n (oR r++x.1.aM :: j1)∧bF n (oS r++x.2.aM :: j2):=fun n=>⟨tA (of_eq_true (J3 r)) ⟨dG x.1,iO (au _) h2⟩,tA (of_eq_true (J5 r)) ⟨dG x.2,iO (au _) h3⟩⟩;by_cases hv : 0≤-1 - x.1.head
   ·rw [gU,if_pos hv] at h1;have pI:=LQ m (-1 - x.1.head) (.agg [.int .i64 0, .aW]);cases hf:m.find? (fun c=>c.v == -1 - x.1.head) with
    | some c =>
     rw [hf] at pI h1;simp only at h1 pI;have ug:=h6 c (cb hf);refine aG.go 1000 ?_;simp only [go_sem,uL,hv,Ad,pI,fL];refine aq.bS [] (Be c.t x.2 (by omega) (by omega)) (by (try simp only [cZ]);exact cx _ _ _) (by simp [go_sem,dG,bW]) ?_;simp only [bC,bN,bL,if_true];refine aG.go 1000 ?_
     by_cases he:c.t=x.2
     ·rw [if_pos he] at h1;have zl:=TF (x:=.agg [.int .i64 x.2.head, .ps 2 (x.2.args.map Tm.aM)]) (by rw [he,cZ]) hf;simp only [go_sem,he,Ad,zl];refine ⟨⟨(r,x.1.aM :: j1,x.2.aM :: j2,m),h1,⟨dG x.1,h2⟩,⟨dG x.2,h3⟩,by simp only;omega,Eo,h6⟩,[],iz rfl ?_,by simp only [lU];omega⟩;have xV:=hl 0;simp only [go_sem,jf,cK (jf _).1,cK (jf _).2,cK xV.1,cK xV.2,hl]
     ·rw [if_neg he] at h1;subst h1;simp only [go_sem,he];refine aG.go 1000 ?_;simp only [go_sem,mapA]
    | none =>
     rw [hf] at pI h1;simp only at h1 pI;have zl:=LK (l:=m) (b:=⟨-1 - x.1.head,x.2⟩) (x:=.agg [.int .i64 x.2.head, .ps 2 (x.2.args.map Tm.aM)]) (cZ _).symm hf;refine aG.go 1000 ?_;simp only [go_sem,uL,hv,Ad,pI,fL,zl];refine ⟨⟨(r,x.1.aM :: j1,x.2.aM :: j2,m++[⟨-1 - x.1.head,x.2⟩]),h1,⟨dG x.1,h2⟩,⟨dG x.2,h3⟩,by simp only;omega,Eo,fun y hy=>?_⟩,[],iz rfl ?_,by simp only [lU];omega⟩
     ·rcases aY.1 hy with hy | hy
      ·exact h6 y hy
      ·rw [aL.1 hy];exact xk
     have xV:=hl 0;simp only [go_sem,jf,cK (jf _).1,cK (jf _).2,cK xV.1,cK xV.2,hl]
   ·rw [gU,if_neg hv] at h1;by_cases c1:x.1.head=x.2.head
    ·by_cases c2:x.1.args.length=x.2.args.length
     ·rw [if_neg (by simp [c1,c2])] at h1;have wM:IntKind.i64.wrap (-1 - x.2.head) = -1 - x.2.head:=by rw [← c1];exact uL
      have xi:¬ 0≤-1 - x.2.head:=by rw [← c1];exact hv
      have c3:(x.1.args.length:Int)=x.2.args.length:=by omega
      refine aG.go 1000 ?_;simp only [go_sem,wM,xi,c1,c3,aj];refine aG.draw [.no, .no, .no,⟨some 7,[3,7],[]⟩,⟨none,[],[3,7]⟩,⟨none,[],[3,7]⟩,⟨none,[],[3,7]⟩,⟨some 8,[4,8],[]⟩] 7 9 mixed rfl rfl (by decide) ?_;have PL:(oR r++x.1.aM :: j1).take r.length=oR r:=by rw [← Fy r,nD]
      have PN:(oS r++x.2.aM :: j2).take r.length=oS r:=by rw [← Fx r,nD]
      have Ow:=oZ x.1.args;have PK:=po x.1;simp only [go_sem,da,HN,HO,PL,PN,aj];refine ⟨⟨by omega,by omega,by omega⟩,⟨by omega,by omega,by omega⟩,?_⟩;refine aG.go 1000 ?_;simp only [go_sem];have KC:=GC x.1 x.2 r;refine ⟨⟨((x.1.args.zip x.2.args).reverse++r,[],[],m),h1,trivial,trivial,by simp only;omega,fun y hy=>?_,h6⟩,[(3,7),(7,3),(4,8),(8,4)],iz rfl ?_,by simp only [lU];omega⟩
      ·rcases aY.1 hy with hy | hy
       ·have hy:=dn.1 hy;have a1:=uD (dx hy).2;have a2:=po x.2;exact ⟨xF (yo Ic) _ (dx hy).1,by omega⟩
       ·exact Eo y hy
      dsimp only
      rw [Qr c2,Qo c2,show ((x.1.args.zip x.2.args).reverse++r).length=r.length+x.1.args.length by simp [c2];omega];have lA:∀ n,bF n (oR r++x.1.args.map Tm.aM):=fun n=>tA (of_eq_true (J3 r)) (bW _);have lB:∀ n,bF n (oS r++x.2.args.map Tm.aM):=fun n=>tA (of_eq_true (J5 r)) (bW _);have P7:=lA 0;have P8:=lB 0;simp only [go_sem,jf,cK (jf _).1,cK (jf _).2,cK P7,cK P8,lA,lB,bu,c2]
     ·rw [if_pos (.inr c2)] at h1;have wM:IntKind.i64.wrap (-1 - x.2.head) = -1 - x.2.head:=by rw [← c1];exact uL
      have xi:¬ 0≤-1 - x.2.head:=by rw [← c1];exact hv
      have c3:¬ (x.1.args.length:Int)=x.2.args.length:=by omega
      subst h1;refine aG.go 1000 ?_;simp only [go_sem,wM,xi,c1,c3,aj];refine aG.go 1000 ?_;simp only [go_sem,mapA]
    ·rw [if_pos (.inl c1)] at h1;subst h1;refine aG.go 1000 ?_;simp only [go_sem,uL,hv,c1];refine aG.go 1000 ?_;simp only [go_sem,mapA]
theorem ZR {Q:Tm→Prop} (ha:∀ t,Q t→∀ u∈t.args,Q u):∀ (S:List (Tm×Tm)) (m:List Bd),(∀ x∈S,Q x.2)→(∀ b∈m,Q b.t)→∀ m',gU S m=some m'→∀ b∈m',Q b.t:=by
 intro S m
 induction S,m using gU.induct with
 | case1 m=>intro _ h m' e;rw [gU] at e;cases e;exact h
 | case2 x r m hv c hf he ih =>
  intro h1 h2 m' e;rw [gU,if_pos hv,hf] at e;simp only [if_pos he] at e;exact ih (fun y hy=>h1 y (by simp [hy])) h2 m' e
 | case3 x r m hv c hf he =>
  intro _ _ m' e;rw [gU,if_pos hv,hf] at e;simp only [if_neg he] at e;cases e
 | case4 x r m hv hf ih =>
  intro h1 h2 m' e;rw [gU,if_pos hv,hf] at e;refine ih (fun y hy=>h1 y (by simp [hy])) (fun b hb=>?_) m' e;rcases aY.1 hb with hb | hb
  ·exact h2 b hb
  ·rw [aL.1 hb];exact h1 x (by simp)
 | case5 x r m hv hc =>
  intro _ _ m' e;rw [gU,if_neg hv,if_pos hc] at e;cases e
 | case6 x r m hv hc ih =>
  intro h1 h2 m' e;rw [gU,if_neg hv,if_neg hc] at e;refine ih (fun y hy=>?_) h2 m' e;rcases aY.1 hy with hy | hy
  ·exact ha _ (h1 x (by simp)) _ (dx (dn.1 hy)).2
  ·exact h1 y (by simp [hy])
def Iv (m:List Bd):Prop:=∀ x∈m,x.t.size<99999999
theorem Rq {b m:List Bd} {p t:Tm} (hb:Iv b) (ht:t.size<99999999) (h:nn b p t=some m):Iv m :=
 ZR (Q:=fun t=>t.size<99999999) (fun t h u hu=>by have:=uD hu;have:=po t;omega) _ _ (fun x hx=>by rw [aL.1 hx];exact ht) hb m h
def wS (l:Li):Prop:=(l.l.fit∧l.l.size<99999999)∧l.r.fit∧l.r.size<99999999
theorem GF:∀ (σ τ:ai),iP σ (σ++τ)
 | [],τ=>by cases τ<;>trivial
 | x :: σ,τ=>⟨.inl rfl,GF σ τ⟩
set_option maxHeartbeats 1000000 in
theorem Wv (b0 b1 b2 b3 b4 b5 b6 b7:Option bO) (b:List Bd) (a l:Li) (D:ah) (F:List Bd→Bool) (hs:bD 8 [b0,b1,b2,b3,b4,b5,b6,b7]) (XF:D.low 8) (hb:Iv b) (ha:wS a) (hl:wS l)
  (hD:∀ m,Iv m→aq Tryz.prog D [.pm (fS m) (gE m)] [b0,b1,b2,b3,b4,b5,b6,b7] (fun r σ'=>r = .bool (F m)∧σ'=[b0,b1,b2,b3,b4,b5,b6,b7])) :
  aq Tryz.prog (.fn 91 [] []) [.pm (fS b) (gE b),a.aM,l.aM,D] [b0,b1,b2,b3,b4,b5,b6,b7] (fun r σ'=>r = .bool (mA b a l F)∧σ'=[b0,b1,b2,b3,b4,b5,b6,b7]):=by
 have ky:∀ n,8≤n→D.low n∧bD n [b0,b1,b2,b3,b4,b5,b6,b7]:=fun n hn=>⟨nG hn XF,oe hn hs⟩;have vg:=ky 10 (by decide);have xN:=ky 11 (by decide);have PJ:=hs;simp only [xD,Gt,and_true] at vg xN PJ;refine aq.begin (rs:=[.tmp 8]) (m:=52) 1000 Tryz.func91 rfl rfl rfl rfl rfl ?_;have hend:∀ (z:Bool) (τ:ai),z=mA b a l F→na (fun r σ'=>r = .bool (mA b a l F)∧σ'=[b0,b1,b2,b3,b4,b5,b6,b7]) 8 (.bool z) ([b0,b1,b2,b3,b4,b5,b6,b7]++τ):=fun z τ hz=>by
  rw [gC];exact ⟨[b0,b1,b2,b3,b4,b5,b6,b7],GF _ _,ae _,hs,trivial,by rw [hz],rfl⟩
 simp only [go_sem,kH];refine aG.draw [] 10 10 mixed rfl rfl (by decide) ?_;simp only [go_sem,da];refine kG (W2 a) (by simp only [Li.aM,Li.cs];exact cx _ _ _) (by simp [go_sem,nt]) ?_;simp only [go_sem,da];refine kG (W2 l) (by simp only [Li.aM,Li.cs];exact cx _ _ _) (by simp [go_sem,nt]) ?_;have hW:mA b a l F=if iU a≠iU l then false else la b a l.l l.r F||la b a l.r l.l F:=rfl
 obtain ⟨W,Kl⟩:∃ W,mA b a l F=W:=⟨_,rfl⟩;rw [Kl] at hend hW ⊢;by_cases hk:iU a=iU l
 case neg =>
  rw [if_pos hk] at hW;subst hW;have r9:(iU a==iU l)=false:=by simpa using hk
  simp only [go_sem,r9];refine aG.go 1000 ?_;simp only [go_sem];exact hend _ _ rfl
 rw [if_neg (fun k=>k hk)] at hW;have r9:(iU a==iU l)=true:=by simpa using hk
 simp only [go_sem,r9];refine aG.go 1000 ?_;simp only [go_sem,List.range_zero,bn,bp,aK,aV,fT,dI];have PE:∀ i:Nat,i<2→∃ x y:Tm,([ah.agg [.int .i64 l.l.head, .ps 2 (l.l.args.map Tm.aM), .int .i64 l.r.head, .ps 2 (l.r.args.map Tm.aM)], .agg [.int .i64 l.r.head, .ps 2 (l.r.args.map Tm.aM), .int .i64 l.l.head, .ps 2 (l.l.args.map Tm.aM)]]).getD i .undef = .agg [.int .i64 x.head, .ps 2 (x.args.map Tm.aM), .int .i64 y.head, .ps 2 (y.args.map Tm.aM)] ∧
   (if i=0 then la b a l.l l.r F||la b a l.r l.l F else if i=1 then la b a l.r l.l F else false)=(la b a x y F||if i+1=0 then la b a l.l l.r F||la b a l.r l.l F else if i+1=1 then la b a l.r l.l F else false)∧x.size<99999999∧y.size<99999999:=fun i hi=>by
  rcases (show i=0∨i=1 by omega) with rfl | rfl
  ·exact ⟨l.l,l.r,rfl,by simp,hl.1.2,hl.2.2⟩
  ·exact ⟨l.r,l.l,rfl,by simp,hl.2.2,hl.1.2⟩
 have h0:W=if 0=0 then la b a l.l l.r F||la b a l.r l.l F else if 0=1 then la b a l.r l.l F else false:=hW
 have hRl:([ah.agg [.int .i64 l.l.head, .ps 2 (l.l.args.map Tm.aM), .int .i64 l.r.head, .ps 2 (l.r.args.map Tm.aM)], .agg [.int .i64 l.r.head, .ps 2 (l.r.args.map Tm.aM), .int .i64 l.l.head, .ps 2 (l.l.args.map Tm.aM)]]).length=2:=rfl;have Kj:∀ n,bF n ([ah.agg [.int .i64 l.l.head, .ps 2 (l.l.args.map Tm.aM), .int .i64 l.r.head, .ps 2 (l.r.args.map Tm.aM)], .agg [.int .i64 l.r.head, .ps 2 (l.r.args.map Tm.aM), .int .i64 l.l.head, .ps 2 (l.l.args.map Tm.aM)]]):=fun n=>by simp [go_sem,bW]
 generalize ([ah.agg [.int .i64 l.l.head, .ps 2 (l.l.args.map Tm.aM), .int .i64 l.r.head, .ps 2 (l.r.args.map Tm.aM)], .agg [.int .i64 l.r.head, .ps 2 (l.r.args.map Tm.aM), .int .i64 l.l.head, .ps 2 (l.l.args.map Tm.aM)]])=R at *
 refine aG.cO (ι:={i:Nat // i≤2∧W=if i=0 then la b a l.l l.r F||la b a l.r l.l F else if i=1 then la b a l.r l.l F else false}) 1000
  (fun q=>fe 56 [(0, .pm (fS b) (gE b)),(3,D),(5, .ptr 8 0),(8, .bool false),(28, .os 10 0 2 4),(29, .int .i64 2),(30, .int .i64 q.1)])
  (fun _=>[b0,b1,b2,b3,b4,b5,b6,b7,some (.var [.bool a.neg, .int .i64 a.l.head, .ps 2 (a.l.args.map Tm.aM), .int .i64 a.r.head, .ps 2 (a.r.args.map Tm.aM)]),none,some (.row R 0)]) (fun q=>2 - q.1) ⟨0,by decide,h0⟩ ?_ (fun _=>by simp) ?_
 ·simp only [go_sem,xD,xN,yk,bW,jf,Kj];exact ⟨rfl,trivial⟩
 ·rintro ⟨i,hi,aN⟩;by_cases bA:(i:Int)<2
  case neg =>
   have dZ:i=2:=by omega
   subst dZ;have hWf:false=W:=by rw [aN];rfl
   simp only [go_sem,bA];refine aG.go 1000 ?_;simp only [go_sem];exact hend _ _ hWf
  have aU:i<2:=by omega
  have hw:IntKind.i64.wrap ((i:Int)+1)=((i+1:Nat):Int):=by rw [dQ (by omega)];omega
  obtain ⟨x,y,hx,hr,xk,CT⟩:=PE i aU;rw [hr] at aN;have oN:la b a x y F=false→W=if i+1=0 then la b a l.l l.r F||la b a l.r l.l F else if i+1=1 then la b a l.r l.l F else false:=fun h=>by rw [aN,h,dk]
  have AJ:la b a x y F=match nn b a.l x with | none=>false | some m=>match nn m a.r y with | none=>false | some k=>F k:=rfl
  have c1:=W_ b a.l x ha.1.1 ha.1.2 xk hb;simp only [go_sem,bA,hRl,hx];refine ⟨by omega,by omega,by decide,?_⟩;refine aq.bS [] (c1) (by (try simp only [cZ]);exact cx _ _ _) (by simp [go_sem,dG,bW,jf]) ?_;rw [je];simp only [ite_self];refine aG.go 1000 ?_
  cases h1:nn b a.l x with
  | none =>
   rw [h1] at AJ;simp only [go_sem,mapA];refine ⟨⟨i+1,by omega,oN AJ⟩,?_,by simp only;omega⟩;simp only [go_sem,xD,xN,yk,bW,jf,Kj,hw];trivial
  | some m =>
   have hm:=Rq hb xk h1;rw [h1] at AJ;simp only at AJ;have c2:=W_ m a.r y ha.2.1 ha.2.2 CT hm;simp only [go_sem,mapA]
   (repeat ((with_reducible refine And.intro ?_ ?_); ·omega))
   refine aq.bS [] (c2) (by (try simp only [cZ]);exact cx _ _ _) (by simp [go_sem,dG,bW,jf]) ?_;rw [je];simp only [ite_self];refine aG.go 1000 ?_
   cases h2:nn m a.r y with
   | none =>
    rw [h2] at AJ;simp only [go_sem,mapA];refine ⟨⟨i+1,by omega,oN AJ⟩,?_,by simp only;omega⟩;simp only [go_sem,xD,xN,yk,bW,jf,Kj,hw];trivial
   | some k =>
    have e7:=Rq hm CT h2;rw [h2] at AJ;simp only at AJ;simp only [go_sem,mapA];refine aq.tail (σ:=[b0,b1,b2,b3,b4,b5,b6,b7]) (τ:=[some (.var [.bool a.neg, .int .i64 a.l.head, .ps 2 (a.l.args.map Tm.aM), .int .i64 a.r.head, .ps 2 (a.r.args.map Tm.aM)]),none,some (.row R 0),some (.var [.int .i64 x.head, .ps 2 (x.args.map Tm.aM), .int .i64 y.head, .ps 2 (y.args.map Tm.aM)])]) XF (by simp [go_sem,jf]) hs ((hD k e7).mono ?_);rintro r σ' ⟨rfl,rfl⟩;refine ⟨rfl,?_⟩;simp only [bp,bn];cases hF:F k with
    | true =>
     refine aG.go 1000 ?_;simp only [go_sem];refine aG.go 1000 ?_;simp only [go_sem];exact hend _ _ (by rw [aN,AJ,hF,fM])
    | false =>
     refine aG.go 1000 ?_;simp only [go_sem];refine ⟨⟨i+1,by omega,oN (by rw [AJ,hF])⟩,?_,by simp only;omega⟩;simp only [go_sem,xD,xN,yk,bW,jf,Kj,hw];trivial
def mZ (d:List Li) (us:List Bool):ai:=[some (.row (gT us) 0),some (.var [.ps 5 (lits d), .os 0 0 d.length 1])]
theorem I6 (l:List Bool) (i:Nat) (b:Bool):(gT l).set i (.bool b)=gT (l.set i b):=by simp [gT,List.map_set]
theorem FD (d:List Li) (us:List Bool) {n:Nat} (h : 2≤n):bD n (mZ d us):=by
 unfold mZ;refine ⟨sY us,⟨cy d,show 0<n by omega,trivial⟩,trivial⟩
section
variable {P:Program} {lo:Ctx} {Q:ct→St→Prop} {k:List KI} {ops:Array Oper} {l:List Oper} {fs:List Fp} {tm:List ah} {σ m:ai}
theorem Vb {d:Option Tmp} {f:ah} {args:List ah} {wr:List Nat} (r:ah) (hc:aq P f args m (fun r' σ'=>r'=r∧σ'=m)) (h:iT P lo Q k ops l fs (put tm d r) (dX wr 0 m σ)):tD P lo Q k ops wr d l fs tm σ m f args :=
 ⟨r,m,hc,A2 wr m 0,h⟩
end
theorem Yls (d:List Li) (a:Li) (c:List Li) (us:List Bool) (b:List Bd) (o:Option bO) (z:Bool) (ho:jK 8 o) (ig:c.length<1000000)
  (hA:aq Tryz.prog (.fn 55 [] []) [.ptr 1 0, .ps 5 (lits c), .pm (fS b) (gE b)] (mZ d us) (fun r σ'=>r = .bool z∧σ'=mZ d us)) :
  aq Tryz.prog (.fn 92 [] [.ptr 2 0, .ptr 3 0]) [.pm (fS b) (gE b)] [some (.row (gT us) 0),some (.var [.ps 5 (lits d), .os 0 0 d.length 1]),some (.var [.ptr 1 0]),some (.var [.ps 5 (lits (a :: c))]),o,none,none,none]
   (fun r σ'=>r = .bool z∧σ'=[some (.row (gT us) 0),some (.var [.ps 5 (lits d), .os 0 0 d.length 1]),some (.var [.ptr 1 0]),some (.var [.ps 5 (lits (a :: c))]),o,none,none,none]):=by
 refine aq.begin (rs:=[.tmp 4]) (m:=7) 1000 Tryz.func92 rfl rfl rfl rfl rfl ?_;have zr:List.drop 1 (lits (a :: c))=lits c:=rfl;simp only [go_sem];refine aG.draw [] 8 8 mixed rfl rfl (by decide) ?_;simp only [go_sem,da,fR,ax,zr];have rf:List.take (c.length+1 - 1) (lits c)=lits c:=bh (by rw [fR];omega);rw [rf]
 (repeat ((with_reducible refine And.intro ?_ ?_); ·omega))
 refine Vb (.bool z) ?_ ?_
 ·refine aq.tail (σ:=mZ d us) (τ:=[some (.var [.ptr 1 0]),some (.var [.ps 5 (lits (a :: c))]),o,none,none,none]) ⟨trivial,trivial⟩ ⟨eN,cy _,⟨(jf b).1,(jf b).2⟩ ,trivial⟩ (FD d us (ae _)) (hA.mono ?_);rintro r σ' ⟨rfl,rfl⟩;exact ⟨rfl,rfl,rfl⟩
 simp only [go_sem];refine aG.go 1000 ?_;simp only [go_sem];rw [gC];exact ⟨_,f_ _,ae _,by simp [go_sem,sY,cy,xD,yk,ho];trivial,trivial,rfl,rfl⟩
set_option maxHeartbeats 1000000 in
theorem NP (d:List Li) (hd:∀ l∈d,wS l) (za:d.length<1000000):∀ (c:List Li) (us:List Bool) (b:List Bd),us.length=d.length→(∀ a∈c,wS a)→c.length<1000000→Iv b →
  aq Tryz.prog (.fn 55 [] []) [.ptr 1 0, .ps 5 (lits c), .pm (fS b) (gE b)] (mZ d us) (fun r σ'=>r = .bool (o7 d c us b)∧σ'=mZ d us)
 | [],us,b,hu,hc,ig,hb=>by
  unfold mZ;refine aq.begin (rs:=[.tmp 6]) (m:=57) 1000 Tryz.func55 rfl rfl rfl rfl rfl ?_;simp only [go_sem,fR,aS];rw [gC];exact ⟨mZ d us,GF (mZ d us) _,ae _,FD d us (ae _),trivial,by rw [o7],rfl⟩
 | a :: c,us,b,hu,hc,ig,hb=>by
  unfold mZ;refine aq.begin (rs:=[.tmp 6]) (m:=57) 1000 Tryz.func55 rfl rfl rfl rfl rfl ?_;have eH:¬ ((c.length+1:Nat):Int)=0:=by omega
  obtain ⟨W,hW⟩:∃ W,o7 d (a :: c) us b=W:=⟨_,rfl⟩;rw [hW];have hend:∀ (z:Bool) (F7:List Bool) (τ:ai),z=W→F7=us→na (fun r σ'=>r = .bool W∧σ'=mZ d us) 2 (.bool z) (mZ d F7++τ):=fun z F7 τ hz hu=>by
   rw [gC,hz,hu];exact ⟨mZ d us,GF _ _,ae _,FD d us (ae _),trivial,rfl,rfl⟩
  unfold mZ at hend;have zb:∀ τ:ai,(some (.row (gT us) 0)) :: (some (.var [.ps 5 (lits d), .os 0 0 d.length 1])) :: τ=mZ d us++τ:=fun τ=>rfl;rw [o7] at hW;obtain ⟨f,hf⟩:∃ f:Nat→Bool,(fun k=>!us.getD k false&&decide ((d.getD k gF).neg=a.neg)&&mA b a (d.getD k gF) fun m=>o7 d c (us.set k true) m)=f:=⟨_,rfl⟩;rw [hf] at hW;have hak:=hc a (by simp);simp only [go_sem,fR,ax,eH];refine aG.cO (ι:={k:Nat // k≤d.length∧((List.range d.length).drop k).any f=W}) 1000
   (fun q=>fe 60 [(2, .pm (fS b) (gE b)),(3, .ptr 2 0),(4, .ptr 3 0),(6, .bool false),(16, .ps 5 (lits d)),(17, .int .i64 d.length),(18, .int .i64 q.1)])
   (fun _=>[some (.row (gT us) 0),some (.var [.ps 5 (lits d), .os 0 0 d.length 1]),some (.var [.ptr 1 0]),some (.var [.ps 5 (lits (a :: c))])]) (fun q=>d.length - q.1) ⟨0,au _,by simpa using hW⟩ ?_ (fun _=>by simp) ?_
  ·simp only [go_sem,sY,cy,jf]
  ·rintro ⟨k,hk,aN⟩;by_cases bA:(k:Int)<d.length
   case neg =>
    have dZ:k=d.length:=by omega
    subst dZ;rw [pW (by simp),nr] at aN;simp only [go_sem,bA];refine aG.go 1000 ?_;simp only [go_sem];exact hend _ us [some (.var [.ptr 1 0]),some (.var [.ps 5 (lits (a :: c))])] aN rfl
   have aU:k<d.length:=by omega
   have hw:IntKind.i64.wrap ((k:Int)+1)=((k+1:Nat):Int):=by rw [dQ (by omega)];omega
   have g1:=tz aU;have g2:=Jp (l:=us) (i:=k) (by omega);have g3:(lits (a :: c)).getD 0 .undef=a.aM:=rfl;have gd:d.getD k gF=d[k]:=by simp [List.getD,aU]
   have OI:=hd _ (aC aU);rw [ao (by simpa using aU),dC,nA] at aN;have wD:f k=(!us.getD k false&&decide (d[k].neg=a.neg)&&mA b a d[k] fun m=>o7 d c (us.set k true) m):=by rw [← hf];simp only [gd]
   generalize d[k]=l at *
   simp only [go_sem,bA,fR,g1,kH];refine ⟨by omega,?_⟩;have ya:(k:Int)<us.length:=by omega
   have FO:f k=false→(List.drop (k+1) (List.range d.length)).any f=W:=fun h=>by rw [h,dk] at aN;exact aN
   refine aG.draw [] 5 5 mixed rfl rfl (by decide) ?_;cases zx:us.getD k false with
   | true =>
    rw [zx] at g2 wD;simp only [go_sem,da,g2,Df,hu,g3,kH,bA]
    (repeat ((with_reducible refine And.intro ?_ ?_); ·omega))
    refine aG.go 1000 ?_;simp only [go_sem];refine ⟨⟨k+1,by omega,FO (by rw [wD];simp)⟩,?_,by simp only;omega⟩;simp only [go_sem,sY,cy,jf,hw]
   | false =>
    rw [zx] at g2 wD;cases fX:(l.neg==a.neg) with
    | false =>
     have BM:decide (l.neg=a.neg)=false:=by simpa using fX
     simp only [go_sem,da,g2,Df,hu,g3,kH,bA,fX,fR,ax]
     (repeat ((with_reducible refine And.intro ?_ ?_); ·omega))
     refine aG.go 1000 ?_;simp only [go_sem];refine ⟨⟨k+1,by omega,FO (by rw [wD,BM];simp)⟩,?_,by simp only;omega⟩;simp only [go_sem,sY,cy,jf,hw]
    | true =>
     have BM:decide (l.neg=a.neg)=true:=by simpa using fX
     rw [BM] at wD;simp only [Bool.not_false,cG] at wD;simp only [go_sem,da,g2,Df,hu,g3,kH,bA,fX,fR,ax]
     (repeat ((with_reducible refine And.intro ?_ ?_); ·omega))
     refine aG.go 1000 ?_;simp only [go_sem,Df,hu,g2,I6];have zy:(us.set k true).length=d.length:=by rw [bj];exact hu
     have rY:(us.set k true).set k false=us:=by
      rw [List.set_set];refine List.ext_getElem (by simp) fun i h1 h2=>?_;rw [List.getElem_set];split
      ·rename_i e;subst e;simpa [List.getD,h2] using zx.symm
      ·rfl
     have Hm:=Wv (some (.row (gT (us.set k true)) 0)) (some (.var [.ps 5 (lits d), .os 0 0 d.length 1])) (some (.var [.ptr 1 0])) (some (.var [.ps 5 (lits (a :: c))])) (some (.var [.bool l.neg, .int .i64 l.l.head, .ps 2 (l.l.args.map Tm.aM), .int .i64 l.r.head, .ps 2 (l.r.args.map Tm.aM)])) none none none b a l (.fn 92 [] [.ptr 2 0, .ptr 3 0]) (fun m=>o7 d c (us.set k true) m)
      (by simp [go_sem,sY,cy,bW]) (by simp [go_sem]) hb hak OI (fun m hm=>Yls d a c _ m (some (.var [.bool l.neg, .int .i64 l.l.head, .ps 2 (l.l.args.map Tm.aM), .int .i64 l.r.head, .ps 2 (l.r.args.map Tm.aM)])) _ (by simp [go_sem,bW,yk]) (by simp only [ax] at ig;omega) (NP d hd za c (us.set k true) m zy (fun x hx=>hc x (by simp [hx])) (by simp only [ax] at ig;omega) hm))
     rw [← wD] at Hm;have g4:(gT (us.set k true)).getD k .undef = .bool true:=by rw [Jp (by omega)];simp [List.getD,show k<us.length by omega]
     generalize us.set k true=C3 at *
     refine ⟨by omega,by omega,?_⟩;refine aG.draw [] 5 5 mixed rfl rfl (by decide) ?_;simp only [go_sem,da,g3,kH,fR,ax]
     (repeat ((with_reducible refine And.intro ?_ ?_); ·omega))
     refine Vb (.bool (f k)) (aq.pad 3 ?_) ?_
     ·have e1:∀ x:Li,ah.agg [.bool x.neg, .int .i64 x.l.head, .ps 2 (x.l.args.map Tm.aM), .int .i64 x.r.head, .ps 2 (x.r.args.map Tm.aM)]=x.aM:=fun _=>rfl;simp only [e1];refine Hm.mono ?_;rintro r σ' ⟨rfl,rfl⟩;rw [gC];exact ⟨_,GF [_,_,_,_,_] [none,none,none],ae _,by simp [go_sem,sY,cy,bW],trivial,rfl,rfl⟩
     simp only [go_sem];refine aG.go 1000 ?_;simp only [go_sem,Df,zy,g4,I6,rY]
     (repeat ((with_reducible refine And.intro ?_ ?_); ·omega))
     refine ⟨fun DZ=>?_,fun DZ=>?_⟩
     ·refine aG.go 1000 ?_;simp only [go_sem];exact hend _ us [some (.var [.ptr 1 0]),some (.var [.ps 5 (lits (a :: c))]),some (.var [.bool l.neg, .int .i64 l.l.head, .ps 2 (l.l.args.map Tm.aM), .int .i64 l.r.head, .ps 2 (l.r.args.map Tm.aM)])] (by rw [← aN,DZ,fM]) rfl
     ·refine ⟨⟨k+1,by omega,FO DZ⟩,?_,by simp only;omega⟩;simp only [go_sem,sY,cy,jf,hw]
def l6 (c:List Li):Prop:=(∀ l∈c,wS l)∧c.length<1000000
theorem J_ {c:List Li} (h:l6 c):EI c:=⟨fun l hl=>by
 obtain ⟨⟨_,a⟩,_,b⟩:=h.1 l hl;exact ⟨by omega,by omega⟩,by have:=h.2;omega⟩
theorem Tl (d:List Li):List.replicate d.length (ah.bool false)=gT (jw d):=Yjp _
set_option maxHeartbeats 1000000 in
theorem Yl0 (c d:List Li) (hc:l6 c) (hd:l6 d):aD Tryz.prog 21 [.ps 5 (lits c), .ps 5 (lits d)] (.dT [.bool (nk c d).1, .int .i64 (nk c d).2]):=by
 refine aD.begin (rs:=[.tmp 4, .tmp 5]) (m:=28) 1000 Tryz.func21 rfl rfl rfl (by decide) ⟨trivial,trivial,trivial⟩ ?_;have hW:=Vt [c,d] (fun x hx=>by
  simp only [aQ,dW,or_false] at hx;rcases hx with rfl | rfl
  ·exact J_ hc
  ·exact J_ hd) (by simp)
 rw [Xk] at hW;have hF:nk c d=if jS c d≠0 then (false,jS c d) else (sG c d,0):=rfl
 rw [hF];simp only [go_sem];refine aq.bS [0] hW ?_ (by simp [go_sem,fO]) ?_
 ·simp only [go_sem,dp,aK,aV]
 simp only [bC,bN,bL,if_true];refine aG.go 1000 ?_;by_cases h0:jS c d=0
 case neg =>
  rw [if_pos h0];simp only [go_sem,h0]
 rw [if_neg (fun k=>k h0)];unfold sG;by_cases hl:d.length<c.length
 ·have h1:(d.length:Int)<c.length:=by omega
  have h2:decide (c.length≤d.length)=false:=by simp;omega
  rw [h2];simp only [go_sem,h0,fR,h1]
 have h1:¬ (d.length:Int)<c.length:=by omega
 have h2:decide (c.length≤d.length)=true:=by simp;omega
 rw [h2,cG];have za:=hd.2;simp only [go_sem,h0,fR,h1,Tl];refine ⟨by omega,?_⟩;refine aq.Bu (q:=3) rfl ?_;simp only [go_sem,aK,aV,cW,dc];have hI:∀ b,b<2→b=0∨b=1:=fun b hb=>by omega
 refine aq.mK (Z:=mZ d (jw d)) (f:=.fn 55 [] []) (args:=[.ptr 1 0, .ps 5 (lits c), .pm (fS []) (gE [])]) (fun b=>b+1) (fun b b' h1 h2 e=>by omega) (fun b hb=>by have:b<2:=hb;simp;omega) (fun b hb=>?_) ⟨trivial,trivial⟩ rfl ⟨eN,cy _,⟨trivial,trivial⟩,trivial⟩ ?_ (FD d _ (ae _))
  (NP d hd.1 hd.2 c (jw d) [] (by simp [jw]) hc.1 hc.2 (fun x hx=>by cases hx)) ?_
 ·rcases hI b hb with rfl | rfl
  ·exact ⟨_,rfl,by simp [go_sem,cK (sY _)]⟩
  ·exact ⟨_,rfl,by simp [go_sem,cK (cy _)]⟩
 ·simp [go_sem,cK (cy _),fS,gE]
 ·rintro r Z' ⟨rfl,rfl⟩;refine ⟨ae _,FD d _ (ae _),trivial,?_⟩;simp only [go_sem,mZ,ka,fK,nM,aK,aV,cK (sY _),cK (cy _)];refine aG.go 1000 ?_;simp only [go_sem]
end Go.Proofs
namespace Go.dm
open Go
section
variable {P:Program} {lo:Ctx} {Q:ct→St→Prop} {tm:List ah} {σ:ai}
theorem Ymt {X:Nat→Nat→Prop} {base mb:Nat} {D:List Deferred} {β:Env} {a:Act} {w:World} (bs:List Nat) (i:Nat) (t:ah) (hi:i<tm.length) (hp:pT (among bs) σ t (tm.getD i .undef)) (h3:Rel X base mb D ⟨tm,σ⟩ β a w) :
  Rel X base mb D ⟨tm.set i t,gD (among bs) 0 σ⟩ β a w:=by
 have oM:=A8 (among bs) σ;have yu:=h3.s.pf oM.pf;obtain ⟨_,e2⟩:=uT yu oM [t] (cD:=[tm.getD i .undef]) (by rw [Gy];exact ⟨hp,by rw [Rb];trivial⟩);refine ⟨yu,by simpa using h3.n,fun k hk=>?_,h3.d⟩;have hr:=(h3.t k (by simpa using hk)).mono (Ci oM.pf) (fun _ _ h=>h);by_cases e:i=k
 ·subst e;have:=(e2 0 (by simp)).1 _ hr;simpa [List.getD,hi] using this
 ·simpa [List.getD,dz,e] using hr
theorem Ykz {n:Nat} {β β':Env} {w w':World} {σ':ai} (bs:List Nat) (g3:Ext n (gD (among bs) 0 σ) β w σ' β' w'):Ext n σ β w σ' β' w':=by
 have hf:=(A8 (among bs) σ).pf;exact ⟨g3.os,g3.tape,g3.output,g3.size,fun g o v hc hn=>g3.cell g o v hc fun hm=>hn (hm.pf hf),fun g hg hn=>g3.block g hg fun o hm=>hn o (hm.pf hf),fun g o hm=>(g3.jb g o hm).imp (fun h=>h.pf hf) id,g3.env⟩
theorem aG.tell {all:Array Oper} {l:List Oper} {k:List KI} (bs:List Nat) (i:Nat) (t:ah) (hi:i<tm.length) (hp:pT (among bs) σ t (tm.getD i .undef)) (he:aG P lo Q (.ops all l :: k) .normal ⟨tm.set i t,gD (among bs) 0 σ⟩):aG P lo Q (.ops all l :: k) .normal ⟨tm,σ⟩:=by
 simp only [aG] at he ⊢;refine fun hs=>?_;intro X base mb D β a w b k cs h1 h2 h3;obtain ⟨e1,kK,fy,a1,w1,q,g1,g2,g3,g4⟩:=(he hs) X base mb D β a w b k cs (by simpa [JG] using h1) h2 (Ymt bs i t hi hp h3);exact ⟨e1,kK,fy,a1,w1,q,g1,g2,Ykz bs g3,g4⟩
end
end Go.dm
namespace Go.Proofs
open Go Go.dm
attribute [local go_sem] Nat.reduceAdd Nat.reduceSub Nat.reduceMul Nat.reduceLeDiff Nat.reduceEqDiff Nat.reduceBEq Nat.reduceLT Nat.le_refl Int.natCast_zero Nat.sub_zero List.length_map Int.toNat_natCast Int.natCast_one Int.reduceEq Int.reduceLT Int.reduceLE Int.reduceNe Int.sub_zero Int.zero_add Int.toNat_one
theorem Yry (d c:List Li) (us:List Bool) (b:List Bd) (o4 o5:Option bO) (z:Bool) (h4:jK 8 o4) (h5:jK 8 o5)
  (hA:aq Tryz.prog (.fn 55 [] []) [.ptr 1 0, .ps 5 (lits c), .pm (fS b) (gE b)] (mZ d us) (fun r σ'=>r = .bool z∧σ'=mZ d us)) :
  aq Tryz.prog (.fn 111 [] [.ptr 2 0, .ptr 3 0]) [.pm (fS b) (gE b)] [some (.row (gT us) 0),some (.var [.ps 5 (lits d), .os 0 0 d.length 1]),some (.var [.ptr 1 0]),some (.var [.ps 5 (lits c)]),o4,o5,none,none]
   (fun r σ'=>r = .bool z∧σ'=[some (.row (gT us) 0),some (.var [.ps 5 (lits d), .os 0 0 d.length 1]),some (.var [.ptr 1 0]),some (.var [.ps 5 (lits c)]),o4,o5,none,none]):=by
 refine aq.begin (rs:=[.tmp 4]) (m:=6) 1000 Tryz.func111 rfl rfl rfl rfl rfl ?_;simp only [go_sem];refine aq.tail (σ:=mZ d us) (τ:=[some (.var [.ptr 1 0]),some (.var [.ps 5 (lits c)]),o4,o5,none,none]) ⟨trivial,trivial⟩ ⟨eN,cy _,⟨(jf b).1,(jf b).2⟩,trivial⟩ (FD d us (ae _)) (hA.mono ?_);rintro r σ' ⟨rfl,rfl⟩;refine ⟨rfl,?_⟩;simp only [mZ,bp,bn];refine aG.go 1000 ?_;simp only [go_sem];rw [gC];exact ⟨_,f_ _,ae _,by simp [go_sem,sY,cy,xD,yk,h4,h5];trivial,trivial,rfl,rfl⟩
set_option maxHeartbeats 2000000 in
theorem Yr0 (c d:List Li) (hc:l6 c) (hd:l6 d):aD Tryz.prog 70 [.ps 5 (lits c), .ps 5 (lits d)] (.dT [.int .i64 (oi c d).1, .bool (oi c d).2.1, .int .i64 (oi c d).2.2]):=by
 refine aD.begin (rs:=[.tmp 4, .tmp 5, .tmp 6]) (m:=72) 1000 Tryz.func70 rfl rfl rfl (by decide) ⟨trivial,trivial,trivial,trivial⟩ ?_;have hW:=Vt [c,d] (fun x hx=>by
  simp only [aQ,dW,or_false] at hx;rcases hx with rfl | rfl
  ·exact J_ hc
  ·exact J_ hd) (by simp)
 rw [Xk] at hW;have hF:oi c d=if jS c d≠0 then (0,false,jS c d) else match rT c d with | some k=>((k:Int),true,0) | none=>(0,false,0):=rfl
 rw [hF];simp only [go_sem];refine aq.bS [0] hW ?_ (by simp [go_sem,fO]) ?_
 ·simp only [go_sem,dp,aK,aV]
 simp only [bC,bN,bL,if_true];refine aG.go 1000 ?_;by_cases h0:jS c d=0
 case neg =>
  rw [if_pos h0];simp only [go_sem,h0]
 rw [if_neg (fun k=>k h0)];have za:=hd.2;have ig:=hc.2;obtain ⟨p,hp⟩:∃ p:Nat→Bool,(fun k=>(List.range c.length).any fun i=>cutAt c d k i)=p:=⟨_,rfl⟩;have hB:rT c d=(List.range d.length).find? p:=by unfold rT;rw [hp]
 rw [hB];obtain ⟨W,Kl⟩:∃ W,(List.range d.length).find? p=W:=⟨_,rfl⟩;rw [Kl];have BO:(jw d).length=d.length:=by simp [jw]
 simp only [go_sem,h0,fR,Tl];refine ⟨by omega,?_⟩;refine aG.cO (ι:={k:Nat // k≤d.length∧((List.range d.length).drop k).find? p=W}) 1000
  (fun q=>fe 74 [(0, .ps 5 (lits c)),(8, .ptr 3 0),(27, .ps 5 (lits d)),(28, .int .i64 d.length),(29, .int .i64 q.1)])
  (fun _=>[none,some (.row (gT (jw d)) 0),some (.var [.ps 5 (lits d), .os 1 0 d.length 1]),some (.var [.ptr 2 0])]) (fun q=>d.length - q.1) ⟨0,au _,by simpa using Kl⟩ ?_ (fun _=>by simp) ?_
 ·simp only [go_sem,sY,cy]
 ·rintro ⟨k,hk,aN⟩;by_cases bA:(k:Int)<d.length
  case neg =>
   have dZ:k=d.length:=by omega
   subst dZ;rw [pW (by simp),List.find?_nil] at aN;subst aN;simp only [go_sem,bA];refine aG.go 1000 ?_;simp only [go_sem]
  have aU:k<d.length:=by omega
  have hw:IntKind.i64.wrap ((k:Int)+1)=((k+1:Nat):Int):=by rw [dQ (by omega)];omega
  have g1:=tz aU;have gd:d.getD k gF=d[k]:=by simp [List.getD,aU]
  have OI:=hd.1 _ (aC aU);rw [ao (by simpa using aU),qz,nA] at aN;have Yc:p k=(List.range c.length).any fun i=>cutAt c d k i:=by rw [← hp]
  have OB:∀ i,cutAt c d k i=(decide ((c.getD i gF).neg≠d[k].neg)&&mA [] (c.getD i gF) d[k] fun m=>o7 d (c.eraseIdx i) ((jw d).set k true) m):=fun i=>by unfold cutAt;rw [gd]
  have g2:(gT (jw d)).getD k .undef = .bool false:=by rw [Jp (by omega)];simp [jw,List.getD,aU]
  have ya:(k:Int)<(jw d).length:=by omega
  have zy:((jw d).set k true).length=d.length:=by rw [bj];exact BO
  have g4:(gT ((jw d).set k true)).getD k .undef = .bool true:=by rw [Jp (by omega)];simp [List.getD,BO,aU]
  have rY:((jw d).set k true).set k false=jw d:=by
   rw [List.set_set];refine List.ext_getElem (by simp) fun i h1 h2=>?_;rw [List.getElem_set];split
   ·simp [jw]
   ·rfl
  generalize d[k]=l at *
  simp only [go_sem,bA,fR,g1,kH,Df,BO,g2,I6]
  (repeat ((with_reducible refine And.intro ?_ ?_); ·omega))
  obtain ⟨V,hV⟩:∃ V,p k=V:=⟨_,rfl⟩;rw [hV] at aN Yc;generalize (jw d).set k true=C3 at *
  refine aG.cO (ι:={i:Nat // i≤c.length∧((List.range c.length).drop i).any (cutAt c d k)=V}) 1000
   (fun q=>fe 74 [(0, .ps 5 (lits c)),(8, .ptr 3 0),(9, .int .i64 k),(10, .ptr 4 0),(27, .ps 5 (lits d)),(28, .int .i64 d.length),(29, .int .i64 k),(40, .ps 5 (lits c)),(41, .int .i64 c.length),(42, .int .i64 q.1)])
   (fun _=>[none,some (.row (gT C3) 0),some (.var [.ps 5 (lits d), .os 1 0 d.length 1]),some (.var [.ptr 2 0]),some (.var [.bool l.neg, .int .i64 l.l.head, .ps 2 (l.l.args.map Tm.aM), .int .i64 l.r.head, .ps 2 (l.r.args.map Tm.aM)])]) (fun q=>c.length - q.1) ⟨0,au _,by simpa using Yc.symm⟩ ?_ (fun _=>by simp) ?_
  ·simp only [go_sem,sY,cy,bW]
  ·rintro ⟨i,hi,fD⟩;by_cases xU:(i:Int)<c.length
   case neg =>
    have dZ:i=c.length:=by omega
    subst dZ;rw [pW (by simp),nr] at fD;rw [← fD] at aN;simp only [go_sem,xU];refine aG.go 1000 ?_;simp only [go_sem,Df,zy,g4,I6,rY]
    (repeat ((with_reducible refine And.intro ?_ ?_); ·omega))
    refine ⟨⟨k+1,by omega,aN⟩,?_,by simp only;omega⟩;simp only [go_sem,sY,cy,hw]
   have qj:i<c.length:=by omega
   have AH:IntKind.i64.wrap ((i:Int)+1)=((i+1:Nat):Int):=by rw [dQ (by omega)];omega
   have gc1:=tz qj;have gcd:c.getD i gF=c[i]:=by simp [List.getD,qj]
   have CF:=hc.1 _ (aC qj);rw [ao (by simpa using qj),dC,nA,OB,gcd] at fD;generalize c[i]=a at *
   have eH:c≠[]:=by rintro rfl;simp at qj
   simp only [go_sem,xU,fR,gc1,kH,AH]
   (repeat ((with_reducible refine And.intro ?_ ?_); ·omega))
   refine aq.ur [] (IX c eH (by omega)) (cx _ _ _) ⟨cy _,trivial⟩ ?_;rw [je];simp only [Bc,A9,Bj,yl,Bl,up,cK (cy _)];refine aG.go 1000 ?_;simp only [go_sem,bp,bn,AH];refine aq.Bo (f:=.fn 71 [] []) (args:=[.os 0 0 c.length 5, .int .i64 i, .int .i64 ((i+1:Nat):Int)]) (B:=.row (lits c) 0) 7 rfl (cy _) ⟨trivial,trivial⟩ ⟨a_,trivial,trivial,trivial⟩ ((LH c i qj (by omega)).mono ?_);rintro r σ' ⟨rfl,rfl⟩;refine ⟨a_,_,rfl,cy _,?_⟩;have OO:c.take i++c.drop (i+1)=c.eraseIdx i:=(List.eraseIdx_eq_take_drop_succ c i).symm;have ju:(c.eraseIdx i).length=c.length - 1:=nB qj;rw [OO];simp only [go_sem,cW,dc];refine aG.tell [7] 52 (.ps 5 (lits (c.eraseIdx i))) (by simp) ?_ ?_
   ·simp only [go_sem,bI,bm,fR,ju];rw [bh (by rw [fR,ju];exact ae _)];exact cx _ _ _
   simp only [go_sem,cW,dc];refine aG.go 1000 ?_;cases fX:(a.neg==l.neg) with
   | true =>
    have BM:decide (a.neg≠l.neg)=false:=by simpa using fX
    rw [BM,cE,dk] at fD;simp only [go_sem,fX];refine ⟨⟨i+1,by omega,fD⟩,?_,by simp only;omega⟩;simp only [go_sem,sY,cy,bW,AH]
   | false =>
    have BM:decide (a.neg≠l.neg)=true:=by simpa using fX
    rw [BM,cG] at fD;simp only [go_sem,fX];have Hm:=Wv (some (.row (gT C3) 0)) (some (.var [.ps 5 (lits d), .os 0 0 d.length 1])) (some (.var [.ptr 1 0])) (some (.var [.ps 5 (lits (c.eraseIdx i))])) (some (.var [.bool l.neg, .int .i64 l.l.head, .ps 2 (l.l.args.map Tm.aM), .int .i64 l.r.head, .ps 2 (l.r.args.map Tm.aM)])) (some (.var [.bool a.neg, .int .i64 a.l.head, .ps 2 (a.l.args.map Tm.aM), .int .i64 a.r.head, .ps 2 (a.r.args.map Tm.aM)])) none none [] a l (.fn 111 [] [.ptr 2 0, .ptr 3 0]) (fun m=>o7 d (c.eraseIdx i) C3 m)
     (by simp [go_sem,sY,cy,bW]) (by simp [go_sem]) (fun x hx=>by cases hx) CF OI (fun m hm=>Yry d (c.eraseIdx i) C3 m _ _ _ (by simp [go_sem,bW,yk]) (by simp [go_sem,bW,yk]) (NP d hd.1 za (c.eraseIdx i) C3 m zy (fun x hx=>hc.1 x (kp hx)) (by omega) hm))
    obtain ⟨z,hz⟩:∃ z,(mA [] a l fun m=>o7 d (c.eraseIdx i) C3 m)=z:=⟨_,rfl⟩;rw [hz] at Hm fD;have hI:∀ b,b<8→b=0∨b=1∨b=2∨b=3∨b=4∨b=5∨b=6∨b=7:=fun b hb=>by omega
    refine aq.Bu (q:=9) rfl ?_;have e1:∀ x:Li,ah.agg [.bool x.neg, .int .i64 x.l.head, .ps 2 (x.l.args.map Tm.aM), .int .i64 x.r.head, .ps 2 (x.r.args.map Tm.aM)]=x.aM:=fun _=>rfl;simp only [go_sem,aK,aV,cW,dc];simp only [e1];refine aq.mK (Z:=[some (.row (gT C3) 0),some (.var [.ps 5 (lits d), .os 0 0 d.length 1]),some (.var [.ptr 1 0]),some (.var [.ps 5 (lits (c.eraseIdx i))]),some (.var [.bool l.neg, .int .i64 l.l.head, .ps 2 (l.l.args.map Tm.aM), .int .i64 l.r.head, .ps 2 (l.r.args.map Tm.aM)]),some (.var [.bool a.neg, .int .i64 a.l.head, .ps 2 (a.l.args.map Tm.aM), .int .i64 a.r.head, .ps 2 (a.r.args.map Tm.aM)]),none,none]) (f:=.fn 91 [] []) (args:=[.pm (fS []) (gE []),a.aM,l.aM, .fn 111 [] [.ptr 2 0, .ptr 3 0]]) (fun b=>[1,2,3,8,4,5,6,9].getD b 0)
     (fun b b' h1 h2 e=>?_) (fun b hb=>?_) (fun b hb=>?_) ⟨trivial,trivial⟩ rfl ?_ ?_ (by simp [go_sem,sY,cy,bW]) Hm ?_
    ·rcases hI b h1 with rfl | rfl | rfl | rfl | rfl | rfl | rfl | rfl<;>rcases hI b' h2 with rfl | rfl | rfl | rfl | rfl | rfl | rfl | rfl<;>first | rfl | exact absurd e (by decide)
    ·rcases hI b hb with rfl | rfl | rfl | rfl | rfl | rfl | rfl | rfl<;>simp
    ·rcases hI b hb with rfl | rfl | rfl | rfl | rfl | rfl | rfl | rfl<;>exact ⟨_,rfl,by simp [go_sem,cK (sY _),cK (cy _),cK (bW _)]⟩
    ·simp [go_sem,nt,jf]
    ·simp [go_sem,fS,gE,Ba (nt _)]
    ·rintro r Z' ⟨rfl,rfl⟩;refine ⟨ae _,by simp [go_sem,sY,cy,bW],trivial,?_⟩;simp only [go_sem,ka,fK,nM,aK,aV,cK (sY _),cK (cy _),cK (bW _),ax,aS,bI,bm];cases z with
     | true =>
      rw [fM] at fD;rw [← fD] at aN;subst aN;refine aG.go 1000 ?_;simp only [go_sem];refine aG.go 1000 ?_;simp only [go_sem];refine aG.go 1000 ?_;simp only [go_sem]
     | false =>
      rw [dk] at fD;refine aG.go 1000 ?_;simp only [go_sem];refine ⟨⟨i+1,by omega,fD⟩,?_,by simp only;omega⟩;simp only [go_sem,sY,cy,bW,AH]
theorem Znl (σ:ai) {b:Nat} (c:ah) (p:Li→Bool) (l:List Li) (hb:bP σ b=fx (lits l)) (hl:l.length<2 ^ 62) (hs:bD σ.length σ) (hc:c.low σ.length)
  (hp:∀ (i:Nat) (h:i<l.length),aq Tryz.prog c [l[i].aM] σ (fun r σ'=>r = .bool (p l[i])∧σ' = σ)) :
  aq Tryz.prog (.fn 63 [] []) [jk b 5 (lits l),c] σ (fun r σ'=>r = .bool (l.any p)∧σ' = σ):=by
 cases l with
 | nil =>
  refine aq.N1 (args':=[.ps 5 (lits []),c]) ?_ (IF σ c p [] hl hs hc hp);rw [Gy];exact ⟨rfl,cx _ _ _⟩
 | cons a l =>
  have nN:bP σ b=some (.row (lits (a :: l)) 0):=hb;have zr:jk b 5 (lits (a :: l)) = .os b 0 (a :: l).length 5:=by rw [← fR (a :: l)];rfl
  rw [zr];have bA:=Bi nN;refine aq.begin (rs:=[.tmp 4]) (m:=7) 1000 Tryz.func63 rfl rfl rfl rfl rfl ?_;simp only [go_sem];refine (Tx σ c p (a :: l) nN hl hs hc hp).mono ?_;rintro r σ' ⟨rfl,rfl⟩;refine aG.go 1000 ?_;simp only [go_sem];rw [gC,Dj p (a :: l) 0 (by omega)];exact ⟨σ',f_ σ',ae _,hs,trivial,rfl,rfl⟩
theorem yg {l:Li} (h:wS l):yE l:=⟨by have:=h.1.2;omega,by have:=h.2.2;omega⟩
theorem TA (l:Li) (h:yE l):aD Tryz.prog 66 [l.aM] (.bool (mz l)):=by
 refine aD.begin (rs:=[.tmp 2]) (m:=7) 1000 Tryz.func66 rfl rfl rfl (by decide) trivial ?_;have h1:=Be l.l l.r (by have:=h.1;omega) (by have:=h.2;omega);unfold mz;simp only [go_sem,kH];refine aq.bS [] (h1) (by (try simp only [cZ]);exact cx _ _ _) (by simp [go_sem,dG,bW]) ?_;simp only [bC,bN,bL,if_true];refine aG.go 1000 ?_
 simp only [go_sem]
theorem Zt4 (a b:Li) (ha:yE a) (hb:yE b):aD Tryz.prog 105 [a.aM,b.aM] (.bool (vJ a b)):=by
 refine aD.begin (rs:=[.tmp 4]) (m:=13) 1000 Tryz.func105 rfl rfl rfl (by decide) trivial ?_;have h:=VR a b ha hb;unfold vJ;cases c:a.neg==b.neg
 ·have hd:decide (a.neg≠b.neg)=true:=by simpa using c
  rw [hd,cG];simp only [go_sem,kH,c];refine aq.bS [] h (cx _ _ _) ⟨nt _,nt _,trivial⟩ ?_;simp only [bC,bN,bL,if_true];refine aG.go 1000 ?_;simp only [go_sem]
 ·have hd:decide (a.neg≠b.neg)=false:=by simpa using c
  rw [hd,cE];simp only [go_sem,kH,c]
theorem Yl2 (σ:ai) (b:Nat) (l m:Li) (hb:bP σ b=some (.var l.cs)) (hl:yE l) (hm:yE m) :
  aq Tryz.prog (.fn 64 [] [.ptr b 0]) [m.aM] σ (fun r σ'=>r = .bool (fw l m)∧σ' = σ):=by
 have h:aD Tryz.prog 64 [m.aM, .pp l.cs] (.bool (fw l m)):=by
  refine aD.begin (rs:=[.tmp 3]) (m:=5) 1000 Tryz.func64 rfl rfl rfl (by decide) trivial ?_;have h1:=WV l m hl hm;simp only [go_sem,kH,Li.cs];refine aq.bS [] h1 (cx _ _ _) ⟨nt _,nt _,trivial⟩ ?_;simp only [bC,bN,bL,if_true];refine aG.go 1000 ?_;simp only [go_sem,fw]
 refine aq.uq (b:=b) (cs:=l.cs) [] hb h ?_ ⟨nt m,nt l,trivial⟩ rfl ⟨rfl,rfl⟩;have h1:uF b l.cs m.aM=m.aM:=rfl;have h2:uF b l.cs (.ptr b 0) = .pp l.cs:=by simp [uF,yY,Li.cs]
 simp only [bn,bp,aK,aV,h1,h2];exact cx _ _ _
theorem Ykx (σ:ai) (b:Nat) (l m:Li) (hb:bP σ b=some (.var l.cs)) (hl:yE l) (hm:yE m) :
  aq Tryz.prog (.fn 104 [] [.ptr b 0]) [m.aM] σ (fun r σ'=>r = .bool (vJ l m)∧σ' = σ):=by
 have h:aD Tryz.prog 104 [m.aM, .pp l.cs] (.bool (vJ l m)):=by
  refine aD.begin (rs:=[.tmp 3]) (m:=5) 1000 Tryz.func104 rfl rfl rfl (by decide) trivial ?_;have h1:=Zt4 l m hl hm;simp only [go_sem,kH,Li.cs];refine aq.bS [] h1 (cx _ _ _) ⟨nt _,nt _,trivial⟩ ?_;simp only [bC,bN,bL,if_true];refine aG.go 1000 ?_;simp only [go_sem]
 refine aq.uq (b:=b) (cs:=l.cs) [] hb h ?_ ⟨nt m,nt l,trivial⟩ rfl ⟨rfl,rfl⟩;have h1:uF b l.cs m.aM=m.aM:=rfl;have h2:uF b l.cs (.ptr b 0) = .pp l.cs:=by simp [uF,yY,Li.cs]
 simp only [bn,bp,aK,aV,h1,h2];exact cx _ _ _
set_option maxHeartbeats 1000000 in
theorem Wf (c:List Li) (hc:l6 c):aD Tryz.prog 29 [.ps 5 (lits c)] (.ps 5 (lits (iK c))):=by
 refine aD.begin (rs:=[.tmp 2]) (m:=32) 1000 Tryz.func29 rfl rfl rfl (by decide) (cy _) ?_;have ig:=hc.2;simp only [go_sem,fR];refine aG.gf (ι:={q:Nat×List Li // q.1≤c.length∧iL q.2 (c.drop q.1)=iK c∧q.2.length≤q.1∧∀ x∈q.2,wS x}) 1000
  (fun q=>fe 33 [(3,jk 0 5 (lits q.1.2)),(7, .ps 5 (lits c)),(8, .int .i64 c.length),(9, .int .i64 q.1.1)])
  (fun q=>[fx (lits q.1.2)]) (fun q=>c.length - q.1.1) ⟨(0,[]),au _,rfl,ae _,fun x hx=>by cases hx⟩ [] ?_ (fun _=>by simp) ?_
 ·refine iz rfl ?_;simp only [go_sem,cy,cK (cy _),show lits []=[] from rfl,s_,sM]
 ·rintro ⟨⟨i,L⟩,hi,aN,Bx,jT⟩;simp only at hi aN Bx jT;by_cases bA:(i:Int)<c.length
  case neg =>
   have dZ:i=c.length:=by omega
   subst dZ;rw [aX,iL] at aN;simp only [go_sem,bA];refine aG.go 1000 ?_;simp only [go_sem];rw [← aN,rO rfl rfl];trivial
  have aU:i<c.length:=by omega
  have hw:IntKind.i64.wrap ((i:Int)+1)=((i+1:Nat):Int):=by rw [dQ (by omega)];omega
  have g1:=tz aU;have CF:=hc.1 _ (aC aU);rw [ao aU,iL] at aN;generalize c[i]=l at *
  have ug:([.bool l.neg, .int .i64 l.l.head, .ps 2 (l.l.args.map Tm.aM), .int .i64 l.r.head, .ps 2 (l.r.args.map Tm.aM)]:List ah)=l.cs:=rfl;have hK:=Znl [fx (lits L),some (.var l.cs)] (b:=0) (.fn 64 [] [.ptr 1 0]) (fun m=>fw l m) L rfl (by omega) ⟨Ag _ (cy L),nt l,trivial⟩ (by simp [go_sem]) (fun j hj=>Yl2 _ 1 l L[j] rfl (yg CF) (yg (jT _ (aC hj))));simp only [go_sem,bA,fR,g1,kH];refine ⟨by omega,?_⟩;rw [ug];refine hK.mono ?_;rintro r σ' ⟨rfl,rfl⟩;rw [← ug];obtain ⟨z,hz⟩:∃ z,(L.any fun m=>fw l m)=z:=⟨_,rfl⟩;rw [hz] at aN ⊢;have hT:=TA l (yg CF);have vD:(z||l.neg&&mz l)=true→iL L (c.drop (i+1))=iK c:=fun h=>by rw [if_pos h] at aN;exact aN
  have uf:(z||l.neg&&mz l)=false→iL (L++[l]) (c.drop (i+1))=iK c:=fun h=>by rw [if_neg (by rw [h];simp)] at aN;exact aN
  clear aN;have h2:bP [fx (lits L),some (bO.var [.bool l.neg, .int .i64 l.l.head, .ps 2 (l.l.args.map Tm.aM), .int .i64 l.r.head, .ps 2 (l.r.args.map Tm.aM)]),some (bO.row [.agg [.bool l.neg, .int .i64 l.l.head, .ps 2 (l.l.args.map Tm.aM), .int .i64 l.r.head, .ps 2 (l.r.args.map Tm.aM)]] 0)] 0=fx (lits L):=rfl;have CS:lits [l]=[.agg [.bool l.neg, .int .i64 l.l.head, .ps 2 (l.l.args.map Tm.aM), .int .i64 l.r.head, .ps 2 (l.r.args.map Tm.aM)]]:=rfl;have nO:=of_eq_true (N0 [l]);rw [CS] at nO;have lw:bF 0 (lits (L++[l])):=cy _;have sc:lits (L++[l])=lits L++[.agg [.bool l.neg, .int .i64 l.l.head, .ps 2 (l.l.args.map Tm.aM), .int .i64 l.r.head, .ps 2 (l.r.args.map Tm.aM)]]:=by rw [← CS];simp [lits]
  refine aG.go 1000 ?_;cases z
  case' true =>
   replace vD:=vD rfl;simp only [go_sem]
  case' false =>
   cases hn:l.neg
   case' false =>
    replace uf:=uf (by rw [hn];rfl);rw [hn] at nO sc h2;simp only [go_sem,hn,vX h2,nO,fR,hw]
   case' true =>
    have e1:l.aM = .agg [.bool true, .int .i64 l.l.head, .ps 2 (l.l.args.map Tm.aM), .int .i64 l.r.head, .ps 2 (l.r.args.map Tm.aM)]:=by rw [← hn];rfl
    rw [hn] at h2 nO sc;simp only [go_sem,hn];refine aq.bS [] hT (by rw [e1];exact cx _ _ _) ⟨nt _,trivial⟩ ?_;simp only [bC,bN,bL,if_true];refine aG.go 1000 ?_;cases ht:mz l
    case' true =>
     replace vD:=vD (by rw [hn,ht];rfl);simp only [go_sem]
    case' false =>
     replace uf:=uf (by rw [hn,ht];rfl);simp only [go_sem,vX h2,nO,fR,hw]
  all_goals first
  | (refine ⟨⟨(i+1,L),by simp only;omega,vD,by simp only;omega,jT⟩,[],iz rfl ?_,by simp only;omega⟩
     simp only [go_sem,cy,cK (cy _),Jl (cy L),hw]
     done)
  | (refine ⟨by omega,⟨(i+1,L++[l]),by simp only;omega,uf,by simp only [az,ax,aS];omega,fun x hx=>(aY.1 hx).elim (jT x) fun h=>by rw [aL.1 h];exact CF⟩,[(0,3),(3,0)],iz rfl ?_,by simp only;omega⟩
     dsimp only
     rw [sc] at lw ⊢;rw [Fq,Fg];simp only [go_sem,cy,cK (cy _),cK lw,iO (au _) lw,fR]
     done)
  | trace_state
set_option maxHeartbeats 1000000 in
theorem Ync (c:List Li) (hc:l6 c):aD Tryz.prog 67 [.ps 5 (lits c)] (.bool (kS c)):=by
 refine aD.begin (rs:=[.tmp 2]) (m:=28) 1000 Tryz.func67 rfl rfl rfl (by decide) trivial ?_;have ig:=hc.2;obtain ⟨W,hW⟩:∃ W,kS c=W:=⟨_,rfl⟩;rw [hW];simp only [go_sem,fR];refine aG.cO (ι:={i:Nat // i≤c.length∧pP (c.take i) (c.drop i)=W}) 1000
  (fun q=>fe 29 [(0, .ps 5 (lits c)),(2, .bool false),(6, .ps 5 (lits c)),(7, .int .i64 c.length),(8, .int .i64 q.1)])
  (fun _=>[]) (fun q=>c.length - q.1) ⟨0,au _,hW⟩ ?_ (fun _=>au _) ?_
 ·simp only [go_sem,cy]
 ·rintro ⟨i,hi,aN⟩;by_cases bA:(i:Int)<c.length
  case neg =>
   have dZ:i=c.length:=by omega
   subst dZ;rw [aX,pP] at aN;subst aN;simp only [go_sem,bA];refine aG.go 1000 ?_;simp only [go_sem]
  have aU:i<c.length:=by omega
  have hw:IntKind.i64.wrap ((i:Int)+1)=((i+1:Nat):Int):=by rw [dQ (by omega)];omega
  have g1:=tz aU;have CF:=hc.1 _ (aC aU);have rf:c.take (i+1)=c.take i++[c[i]]:=by rw [c9,av aU,gK]
  rw [ao aU,pP,← rf] at aN;generalize c[i]=l at *
  have ug:([.bool l.neg, .int .i64 l.l.head, .ps 2 (l.l.args.map Tm.aM), .int .i64 l.r.head, .ps 2 (l.r.args.map Tm.aM)]:List ah)=l.cs:=rfl;have Yf:(lits c).take i=lits (c.take i):=by simp [lits,List.map_take]
  have hK:=IF [some (.var l.cs)] (.fn 104 [] [.ptr 0 0]) (fun m=>vJ l m) (c.take i) (by rw [cA];omega) ⟨nt l,trivial⟩ (by simp [go_sem]) (fun j hj=>Ykx _ 0 l (c.take i)[j] rfl (yg CF) (yg (hc.1 _ (jF (aC hj)))));have hT:=TA l (yg CF);obtain ⟨z,hz⟩:∃ z,((c.take i).any fun m=>vJ l m)=z:=⟨_,rfl⟩;rw [hz] at aN hK;simp only [go_sem,bA,fR,g1,kH,Yf,dH]
  (repeat ((with_reducible refine And.intro ?_ ?_); ·omega))
  rw [ug];refine hK.mono ?_;rintro r σ' ⟨rfl,rfl⟩;rw [← ug];have zB:(z || !l.neg&&mz l)=true→true=W:=fun h=>by rw [if_pos h] at aN;exact aN
  have xX:(z || !l.neg&&mz l)=false→pP (c.take (i+1)) (c.drop (i+1))=W:=fun h=>by rw [if_neg (by rw [h];simp)] at aN;exact aN
  clear aN;refine aG.go 1000 ?_;cases z
  case' true =>
   replace zB:=zB rfl;simp only [go_sem]
  case' false =>
   cases hn:l.neg
   case' true =>
    replace xX:=xX (by rw [hn];rfl);simp only [go_sem,hn]
   case' false =>
    have e1:l.aM = .agg [.bool false, .int .i64 l.l.head, .ps 2 (l.l.args.map Tm.aM), .int .i64 l.r.head, .ps 2 (l.r.args.map Tm.aM)]:=by rw [← hn];rfl
    simp only [go_sem,hn];refine aq.bS [] hT (by rw [e1];exact cx _ _ _) ⟨nt _,trivial⟩ ?_;simp only [bC,bN,bL,if_true];refine aG.go 1000 ?_;cases ht:mz l
    case' true =>
     replace zB:=zB (by rw [hn,ht];rfl);simp only [go_sem]
    case' false =>
     replace xX:=xX (by rw [hn,ht];rfl);simp only [go_sem]
  all_goals first
  | (refine ⟨⟨i+1,by omega,xX⟩,?_,by simp only;omega⟩
     simp only [go_sem,cy,hw]
     done)
  | (subst zB
     refine aG.go 1000 ?_;simp only [go_sem]
     done)
  | trace_state
def lD (S:List Int) (v:Int):List Int:=if v∈S then S else S++[v]
mutual
def Tm.num:Tm→List Int→Tm×List Int
 | .mk h ts,S=>if h<0 then (.mk (-1 - ((lD S (-1 - h)).idxOf (-1 - h):Int)) [],lD S (-1 - h)) else (.mk h (Tm.gM ts S).1,(Tm.gM ts S).2)
def Tm.gM:List Tm→List Int→List Tm×List Int
 | [],S=>([],S)
 | t :: ts,S=>((t.num S).1 :: (Tm.gM ts (t.num S).2).1,(Tm.gM ts (t.num S).2).2)
end
def nU (S:List Int):List ah:=S.map (.int .i64 ·)
def sw (S:List Int):List ah:=(List.range S.length).map fun (i:Nat)=>.int .i64 i
def kY (S:List Int):Option bO:=some (.map (nU S) (sw S) false)
def kX:Option bO:=some (.var [.map 0])
theorem Rf (S:List Int) (v:Int):(lD S v).length≤S.length+1:=by unfold lD;split<;>simp
mutual
theorem ND:∀ (t:Tm) (S:List Int),(t.num S).2.length≤S.length+t.size
 | .mk h ts,S=>by
  rw [Tm.num,Tm.size];split
  ·have:=Rf S (-1 - h);simp only;omega
  ·have:=QH ts S;simp only;omega
theorem QH:∀ (ts:List Tm) (S:List Int),(Tm.gM ts S).2.length≤S.length+Tm.bG ts
 | [],S=>by simp [Tm.gM]
 | t :: ts,S=>by
  rw [Tm.gM,Tm.bG];have:=ND t S;have:=QH ts (t.num S).2;simp only;omega
end
theorem VE (S:List Int) (v:Int):(nU S).all (sameKind (.int .i64 v))=true:=by simp [nU,sameKind]
theorem Ynu (S:List Int):(nU S).length=S.length:=by simp [nU]
theorem L4 (v:Int):∀ (S:List Int) (n:Nat),fG (.int .i64 v) (nU S) n=if v∈S then some (n+S.idxOf v) else none
 | [],n=>by simp [nU,fG]
 | b :: S,n=>by
  have ih:=L4 v S (n+1);simp only [nU,aK,fG] at ih ⊢;by_cases c:b=v
  ·have hc:fC (.int .i64 v) (.int .i64 b)=true:=by simp [fC,c]
   rw [hc,if_pos rfl,c,List.idxOf_cons_self,if_pos (by simp)];simp
  ·have hc:fC (.int .i64 v) (.int .i64 b)=false:=by simp only [fC,beq_eq_false_iff_ne];exact fun e=>c e.symm
   rw [hc,if_neg (by simp),ih,List.idxOf_cons,show (b==v)=false by simpa using c,cond_false];by_cases hm:v∈S
   ·rw [if_pos hm,if_pos (by simp [hm])];congr 1;omega
   ·rw [if_neg hm,if_neg (by simp only [aQ,not_or];exact ⟨fun e=>c e.symm,hm⟩)]
theorem Ydb (S:List Int) (v:Int) (z:ah):fv (nU S) (sw S) z (.int .i64 v) true=if v∈S then .dT [.int .i64 (S.idxOf v), .bool true] else .dT [z, .bool false]:=by
 unfold fv;rw [L4];by_cases hm:v∈S
 ·have bA:=gB hm;rw [if_pos hm,if_pos hm];simp only [if_true,sw,List.getD,cu,bq];rw [List.getElem?_range bA];rfl
 ·rw [if_neg hm,if_neg hm];rfl
theorem Ybg {S:List Int} {v:Int} (h:v ∉ S):jn (nU S) (sw S) (.int .i64 v) (.int .i64 S.length)=(nU (S++[v]),sw (S++[v])):=by
 unfold jn;rw [L4,if_neg h];simp [nU,sw,List.range_succ]
theorem Dq {n:Nat} (S:List Int):bF n (nU S)∧bF n (sw S):=⟨uU fun _ _=>trivial,uU fun _ _=>trivial⟩
theorem Ym0 {n:Nat} (S:List Int):jK n (kY S):=Dq S
theorem Yn0 (S:List Int) (v:Int) (hS:S.length<1000000000):aq Tryz.prog (.fn 113 [] [.ptr 1 0]) [.int .i64 v] [kY S,kX] (fun r σ'=>r = .int .i64 ((lD S v).idxOf v)∧σ'=[kY (lD S v),kX]):=by
 refine aq.begin (rs:=[.tmp 3]) (m:=18) 1000 Tryz.func113 rfl rfl rfl rfl rfl ?_;have pI:=Ydb S v (.int .i64 0);unfold kY kX lD;by_cases hm:v∈S
 ·rw [if_pos hm] at pI;rw [if_pos hm];simp only [go_sem,VE,pI];rw [gC];exact ⟨_,f_ _,by simp,⟨Dq S,⟨cI,trivial⟩,trivial⟩,by simp [go_sem],rfl,rfl⟩
 ·rw [if_neg hm] at pI;rw [if_neg hm];have HK:(S++[v]).idxOf v=S.length:=by rw [List.idxOf_append,if_neg hm];simp
  simp only [go_sem,VE,pI,Ynu,Ybg hm];rw [gC];exact ⟨_,f_ _,by simp,⟨Dq _,⟨cI,trivial⟩,trivial⟩,by simp [go_sem],by rw [HK],rfl⟩
theorem aq.DE {P:Program} {σ:ai} {g:FuncId} {fn:Func} {c:Code} {first captured args all:List ah} {K:ah→ai→Prop} {m:Nat} {rs:List ResultVar} (hf:P.funcs[g]? = some fn) (hb:fn.body=some c) (hr:fn.results.toList=rs)
  (fq : first ++ args ++ captured = all) (hm : fn.ntmps - all.length = m) (ff : (fn.name == "runtime.NumGoroutine") = false)
  (h:aG P ⟨σ.length,none⟩ (rq P rs (zY K σ.length)) [.code c] .normal ⟨all++List.replicate m .undef,σ⟩):aq P (.fn g first captured) args σ K:=by
 subst hr hm;exact aq.sh (by rw [fq];exact cg.tree (cg.body hf hb ff h))
theorem SA {K:ah→ai→Prop} {n:Nat} {r0:ah} {σ':ai}:zY K n r0 σ' = ∃ r lW,pT (fun b=>decide (n≤b)) σ' r r0∧iP lW σ'∧lW.length=n∧bD n lW∧r.low 0∧K r lW:=rfl
def EH:ah:=.fn 113 [] [.ptr 1 0]
def lT (S:List Int):ai:=[kY S,kX]
theorem LV (S:List Int):bD 2 (lT S):=⟨Ym0 S,⟨cI,trivial⟩,trivial⟩
@[go_sem] theorem Xbs {n:Nat} (S:List Int):bF n (nU S)=True:=eq_true (Dq S).1
@[go_sem] theorem Xc7 {n:Nat} (S:List Int):bF n (sw S)=True:=eq_true (Dq S).2
@[go_sem] theorem Xc2 {π:Nat→Nat} (S:List Int):eK π (nU S)=nU S:=cK (Dq S).1
@[go_sem] theorem Xcb {π:Nat→Nat} (S:List Int):eK π (sw S)=sw S:=cK (Dq S).2
theorem MN {f:ah} {args:List ah} {S S':List Int} {x:ah} {τ:ai} {K:ah→ai→Prop} (h:aq Tryz.prog f args (lT S) (fun r σ'=>r=x∧σ'=lT S')) (hf:f.low 2) (ha:bF 2 args)
  (hk:K x (kY S' :: kX :: τ)):aq Tryz.prog f args (kY S :: kX :: τ) K:=by
 refine aq.tail (σ:=lT S) (τ:=τ) hf ha (LV S) (h.mono ?_);rintro _ _ ⟨rfl,rfl⟩;exact ⟨rfl,hk⟩
theorem Ge (wr:List Nat):∀ (i:Nat) (τ:ai),dX wr i τ τ = τ
 | _,[]=>rfl
 | i,x :: τ=>by simp only [dX,Ge wr (i+1) τ,ite_self]
theorem Ypj {f:ah} {args:List ah} {S S':List Int} {x:ah} {τ:ai} {lo:Ctx} {Q:ct→St→Prop} {k:List KI} {ops:Array Oper} {dst:Option Tmp} {ol:List Oper} {fs:List Fp} {tm:List ah}
  (h:aq Tryz.prog f args (lT S) (fun r σ'=>r=x∧σ'=lT S')) (hf:f.low 2) (ha:bF 2 args) (hk:iT Tryz.prog lo Q k ops ol fs (put tm dst x) (kY S' :: kX :: τ)) :
  tD Tryz.prog lo Q k ops [0] dst ol fs tm (kY S :: kX :: τ) (kY S :: kX :: τ) f args:=by
 refine ⟨x,kY S' :: kX :: τ,MN h hf ha ⟨rfl,rfl⟩,⟨.inl rfl,A2 _ _ _⟩,?_⟩;have:dX [0] 0 (kY S' :: kX :: τ) (kY S :: kX :: τ)=kY S' :: kX :: τ:=by
  show (if ([0]:List Nat).contains 0=true then kY S' else kY S) :: dX [0] 1 (kX :: τ) (kX :: τ) = _
  rw [Ge];rfl
 rw [this];exact hk
theorem W9:∀ (n:Nat) (t:Tm) (S:List Int),t.size≤n→t.size≤100000000→t.fit→S.length+t.size<1000000000 →
  aq Tryz.prog (.fn 114 [] []) [.agg [EH],t.aM] (lT S) (fun r σ'=>r=(t.num S).1.aM∧σ'=lT (t.num S).2)
 | 0,t,S,h,_,_,_=>by have:=po t;omega
 | n+1,t,S,h,hs,hf,hS=>by
  refine aq.DE (rs:=[.cell 4 70]) (m:=37) Tryz.func114 rfl rfl rfl rfl (by decide) ?_;have fJ:=po t;have mO:=oZ t.args;obtain ⟨hd,ts⟩:=t;have ha:=(FC hd ts).symm;by_cases fX:hd<0
  ·have fD:IntKind.i64.wrap (-1 - hd) = -1 - hd:=by have:=hf.1;exact dQ (by unfold mE at *;omega)
   have vw:(Tm.mk hd ts).num S=(.mk (-1 - ((lD S (-1 - hd)).idxOf (-1 - hd):Int)) [],lD S (-1 - hd)):=by rw [Tm.num,if_pos fX]
   rw [vw];refine aG.go 1000 ?_;simp only [go_sem,lT,EH,ha,fX,fD];have hb:(lD S (-1 - hd)).length<2000000000:=by have:=Rf S (-1 - hd);omega
   have HK:(lD S (-1 - hd)).idxOf (-1 - hd)≤(lD S (-1 - hd)).length:=List.idxOf_le_length;refine MN (Yn0 S (-1 - hd) (by omega)) ⟨trivial,eN,trivial⟩ ⟨trivial,trivial⟩ ?_;refine aG.go 1000 ?_;have hw:IntKind.i64.wrap (-1 - (((lD S (-1 - hd)).idxOf (-1 - hd):Nat):Int)) = -1 - (((lD S (-1 - hd)).idxOf (-1 - hd):Nat):Int):=dQ (by omega);simp only [go_sem,hw];rw [SA];refine ⟨(Tm.mk (-1 - (((lD S (-1 - hd)).idxOf (-1 - hd):Nat):Int)) []).aM,lT (lD S (-1 - hd)),?_,?_,rfl,LV _,dG _,rfl,rfl⟩
   ·rw [← FC];exact ⟨rfl,rfl,cx _ _ _⟩
   ·simp [lT,iP]
  ·have vw:(Tm.mk hd ts).num S=(.mk hd (Tm.gM ts S).1,(Tm.gM ts S).2):=by rw [Tm.num,if_neg fX]
   rw [vw];obtain ⟨Z,hZ⟩:∃ Z,Tm.gM ts S=Z:=⟨_,rfl⟩;rw [hZ];refine aG.go 1000 ?_;simp only [go_sem,lT,EH,ha,fX,aj];refine aG.gf (ι:={q:Nat×List Tm×List Int // q.1≤ts.length∧Z=(q.2.1++(Tm.gM (ts.drop q.1) q.2.2).1,(Tm.gM (ts.drop q.1) q.2.2).2)∧q.2.1.length=q.1∧q.2.2.length+Tm.bG (ts.drop q.1)≤S.length+Tm.bG ts}) 1000
    (fun q=>fe 39 [(2, .ptr 2 0),(4, .ptr 4 0),(5, .ptr 5 0),(23, .ps 2 (ts.map Tm.aM)),(24, .int .i64 ts.length),(25, .int .i64 q.1.1)])
    (fun q=>[kY q.1.2.2,kX,some (.var [.fn 113 [] [.ptr 1 0]]),none,some (.var [.int .i64 0, .aW]),some (.var [.int .i64 hd,jk 6 2 (q.1.2.1.map Tm.aM)]),fx (q.1.2.1.map Tm.aM)])
    (fun q=>ts.length - q.1.1) ⟨(0,[],S),by omega,by simp [hZ],rfl,ae _⟩ [] ?_ (fun _=>by simp) ?_
   ·refine iz rfl ?_;simp only [go_sem,aV,s_,sM,bW,cK (bW _),kY,kX]
   ·rintro ⟨⟨i,L,S'⟩,hi,aN,hL,zv⟩;simp only at hi aN hL zv;simp only [Tm.args] at fJ mO;by_cases bA:(i:Int)<ts.length
    ·have aU:i<ts.length:=by omega
     have hw:IntKind.i64.wrap ((i:Int)+1)=((i+1:Nat):Int):=by rw [dQ (by omega)];omega
     have hg:(ts.map Tm.aM).getD i .undef=ts[i].aM:=mC aU;rw [ao aU,Tm.gM] at aN;rw [ao aU,Tm.bG] at zv;have rD:=Fm (yo hf) i aU;simp only [Tm.args] at rD;have a1:=Ce ts i aU;have a2:=Ca ts (i+1);simp only [go_sem,bA,aj,hg,fL];refine ⟨by omega,?_⟩;refine aG.draw [⟨none,[],[0,8]⟩,⟨none,[],[0,8]⟩, .no, .no,⟨none,[0],[]⟩,⟨some 8,[8],[]⟩,⟨some 9,[6,9],[]⟩, .no,⟨none,[5],[]⟩] 8 10 mixed rfl rfl (by decide) ?_;simp only [go_sem,da];obtain ⟨x,hx⟩:∃ x,ts[i]=x:=⟨_,rfl⟩;simp only [hx] at rD a1 aN zv ⊢;have BO:=ND x S';have uk:=W9 n x S' (by omega) (by omega) rD (by omega);rw [cZ x] at uk;generalize hz:x.num S'=z at *
     obtain ⟨y,S2⟩:=z;simp only at uk aN BO;refine Ypj uk ⟨trivial,trivial⟩ ⟨⟨⟨trivial,eN,trivial⟩,trivial⟩,⟨trivial,bW _,trivial⟩,trivial⟩ ?_;have h3:bP ([kY S2,kX,some (bO.var [.fn 113 [] [.ptr 1 0]]),none,some (.var [.int .i64 0, .aW]),some (.var [.int .i64 hd,jk 6 2 (L.map Tm.aM)]),fx (L.map Tm.aM),some (.var [.int .i64 x.head, .ps 2 (x.args.map Tm.aM)]),some (.row [y.aM] 0),none]) 6=fx (L.map Tm.aM):=rfl;have nO:=of_eq_true (Dk [y]);rw [show [y].map Tm.aM=[y.aM] from rfl] at nO
     have qF:List.take 1 [y.aM]=[y.aM]:=rfl;simp only [go_sem,vX h3,nO,aj,qF,fL];refine ⟨by omega,?_⟩;refine aG.go 1000 ?_;simp only [go_sem,hw];refine ⟨⟨(i+1,L++[y],S2),by simp only;omega,by simp only;rw [aN];simp,by simp [hL],by simp only;omega⟩,[(6,9),(9,6)],iz rfl ?_,by simp only;omega⟩;have lw:bF 0 ((L++[y]).map Tm.aM):=bW _;dsimp only
     rw [cY] at lw ⊢;rw [wo (by simp),wm (by simp)];simp only [aK,aV] at lw;simp only [go_sem,kY,kX,bW,cK (bW _),cK lw,iO (au 7) lw,aj,ax,aS,aK,aV]
    ·have dZ:i=ts.length:=by omega
     subst dZ;rw [aX,Tm.gM,bu] at aN;subst aN;simp only [go_sem,bA];refine aG.go 1000 ?_;simp only [go_sem,yN];rw [SA];refine ⟨(Tm.mk hd L).aM,lT S',?_,by simp [lT,kX,iP],rfl,LV _,dG _,rfl,rfl⟩;rw [← FC];refine ⟨rfl,?_,cx _ _ _⟩;rw [rO rfl rfl];trivial
def xq (l:List Tm):List Tm×Int:=if jc l then ([],1) else ((Tm.gM l []).1,0)
theorem Yn3 (l:List Tm) (hs:Tm.bG l<99999999) (hf:Tm.fits l):aD Tryz.prog 73 [.ps 2 (l.map Tm.aM)] (.dT [.ps 2 ((xq l).1.map Tm.aM), .int .i64 (xq l).2]):=by
 refine aD.begin (rs:=[.tmp 2, .tmp 3]) (m:=27) 1000 Tryz.func73 rfl rfl rfl (by decide) ⟨bW _,trivial,trivial⟩ ?_;have mO:=oZ l;have hw:=LU l (by omega) (fun t ht=>by have:=uD ht;omega);unfold xq;simp only [go_sem];refine aq.bS [] (hw) (by (try simp only [cZ]);exact cx _ _ _) (by simp [go_sem,dG,bW]) ?_;simp only [bC,bN,bL,if_true];refine aG.go 1000 ?_
 cases hW:jc l
 case' true=>simp only [go_sem,aV]
 case' false =>
  obtain ⟨Z,hZ⟩:∃ Z,Tm.gM l []=Z:=⟨_,rfl⟩;rw [hZ];simp only [go_sem,aj];refine aG.gf (ι:={q:Nat×List Tm×List Int // q.1≤l.length∧Z=(q.2.1++(Tm.gM (l.drop q.1) q.2.2).1,(Tm.gM (l.drop q.1) q.2.2).2)∧q.2.1.length=q.1∧q.2.2.length+Tm.bG (l.drop q.1)≤Tm.bG l}) 1000
   (fun q=>fe 28 [(5, .ptr 2 0),(6,jk 3 2 (q.1.2.1.map Tm.aM)),(14, .ps 2 (l.map Tm.aM)),(15, .int .i64 l.length),(16, .int .i64 q.1.1)])
   (fun q=>[kY q.1.2.2,kX,some (.var [.fn 113 [] [.ptr 1 0]]),fx (q.1.2.1.map Tm.aM)])
   (fun q=>l.length - q.1.1) ⟨(0,[],[]),by omega,by simp [hZ],rfl,by simp⟩ [] ?_ (fun _=>by simp) ?_
  ·refine iz rfl ?_;simp only [go_sem,aV,s_,sM,bW,cK (bW _),kY,kX,show nU []=[] from rfl,show sw []=[] from rfl]
  ·rintro ⟨⟨i,L,S⟩,hi,aN,hL,fJ⟩;simp only at hi aN hL fJ;by_cases bA:(i:Int)<l.length
   ·have aU:i<l.length:=by omega
    have hw:IntKind.i64.wrap ((i:Int)+1)=((i+1:Nat):Int):=by rw [dQ (by omega)];omega
    have hg:(l.map Tm.aM).getD i .undef=l[i].aM:=mC aU;rw [ao aU,Tm.gM] at aN;rw [ao aU,Tm.bG] at fJ;have rD:=Fm hf i aU;obtain ⟨x,hx⟩:∃ x,l[i]=x:=⟨_,rfl⟩;have a1:=w7 l i aU;simp only [hx] at rD aN fJ hg a1;have BO:=ND x S;simp only [go_sem,bA,aj,hg,fL];refine ⟨by omega,?_⟩;have uk:=W9 x.size x S (ae _) (by omega) rD (by omega);rw [cZ x] at uk;generalize hz:x.num S=z at *
    obtain ⟨y,S2⟩:=z;simp only at uk aN BO;refine MN uk ⟨trivial,trivial⟩ ⟨⟨⟨trivial,eN,trivial⟩,trivial⟩,⟨trivial,bW _,trivial⟩,trivial⟩ ?_;have h3:bP [kY S2,kX,some (bO.var [.fn 113 [] [.ptr 1 0]]),fx (L.map Tm.aM),some (.var [.int .i64 x.head, .ps 2 (x.args.map Tm.aM)]),some (.row [y.aM] 0)] 3=fx (L.map Tm.aM):=rfl;have nO:=of_eq_true (Dk [y]);rw [show [y].map Tm.aM=[y.aM] from rfl] at nO
    have qF:List.take 1 [y.aM]=[y.aM]:=rfl;refine aG.go 1000 ?_;simp only [go_sem,vX h3,nO,aj,qF,fL,hw];refine ⟨by omega,?_⟩;refine ⟨⟨(i+1,L++[y],S2),by simp only;omega,by simp only;rw [aN];simp,by simp [hL],by simp only;omega⟩,[(3,6),(6,3)],iz rfl ?_,by simp only;omega⟩;have lw:bF 0 ((L++[y]).map Tm.aM):=bW _;dsimp only
    rw [cY] at lw ⊢;rw [wo (by simp),wm (by simp)];simp only [aK,aV] at lw;simp only [go_sem,kY,kX,bW,cK (bW _),cK lw,iO (au 4) lw,aj,ax,aS,aK,aV]
   ·have dZ:i=l.length:=by omega
    subst dZ;rw [aX,Tm.gM,bu] at aN;subst aN;simp only [go_sem,bA];refine aG.go 1000 ?_;simp only [go_sem,yN];rw [rO rfl rfl];trivial
def yC:List Li→List Tm→List Li
 | l :: c,a :: b :: ts=>⟨l.neg,a,b⟩ :: yC c ts
 | _,_=>[]
def qp (c:List Li):List Li:=yC c (Tm.gM (ck c) []).1
def nh (c:List Li):List Li×Int:=if jc (ck c) then ([],1) else (qp c,0)
theorem Yko (c:List Li) (ts:List Tm) (i:Nat) (hi:i<c.length) (h:ts.length=2*c.length) :
  yC (c.drop i) (ts.drop (2*i))=⟨c[i].neg,ts[2*i]'(by omega),ts[2*i+1]'(by omega)⟩ :: yC (c.drop (i+1)) (ts.drop (2*(i+1))):=by
 rw [ao hi,ao (by omega : 2*i<ts.length),ao (by omega : 2*i+1<ts.length),yC];rfl
theorem Tb:∀ (ts:List Tm) (S:List Int),(Tm.gM ts S).1.length=ts.length
 | [],_=>rfl
 | t :: ts,S=>by rw [Tm.gM];simp [Tb ts]
theorem Ywk (c:List Li) (ts:List Tm) (h:ts.length=2*c.length) (hc:c.length<1000000):aD Tryz.prog 75 [.ps 5 (lits c), .ps 2 (ts.map Tm.aM)] (.ps 5 (lits (yC c ts))):=by
 refine aD.begin (rs:=[.tmp 4]) (m:=32) 1000 Tryz.func75 rfl rfl rfl (by decide) (cy _) ?_;obtain ⟨Z,hZ⟩:∃ Z,yC c ts=Z:=⟨_,rfl⟩;rw [hZ];simp only [go_sem,fR];refine aG.gf (ι:={q:Nat×List Li // q.1≤c.length∧Z=q.2++yC (c.drop q.1) (ts.drop (2*q.1))∧q.2.length=q.1}) 1000
  (fun q=>fe 34 [(1, .ps 2 (ts.map Tm.aM)),(5,jk 0 5 (lits q.1.2)),(8, .ps 5 (lits c)),(9, .int .i64 c.length),(10, .int .i64 q.1.1)])
  (fun q=>[fx (lits q.1.2)]) (fun q=>c.length - q.1.1) ⟨(0,[]),au _,by simp [hZ],rfl⟩ [] ?_ (fun _=>by simp) ?_
 ·refine iz rfl ?_;simp only [go_sem,cy,cK (cy _),show lits []=[] from rfl,s_,sM,bW,cK (bW _)]
 ·rintro ⟨⟨i,L⟩,hi,aN,hL⟩;simp only at hi aN hL;by_cases bA:(i:Int)<c.length
  ·have aU:i<c.length:=by omega
   have hw:IntKind.i64.wrap ((i:Int)+1)=((i+1:Nat):Int):=by rw [dQ (by omega)];omega
   have tf:IntKind.i64.wrap (2*(i:Int))=((2*i:Nat):Int):=by rw [dQ (by omega)];omega
   have Et:IntKind.i64.wrap (((2*i:Nat):Int)+1)=((2*i+1:Nat):Int):=by rw [dQ (by omega)];omega
   have g1:=tz aU;rw [Yko c ts i aU h] at aN;have l1 : 2*i<ts.length:=by omega
   have l2 : 2*i+1<ts.length:=by omega
   have l1':((2*i:Nat):Int)<ts.length:=by omega
   have l2':((2*i+1:Nat):Int)<ts.length:=by omega
   have gt1:(ts.map Tm.aM).getD (2*i) .undef=(ts[2*i]).aM:=mC l1;have gt2:(ts.map Tm.aM).getD (2*i+1) .undef=(ts[2*i+1]).aM:=mC l2;generalize ts[2*i]=a at *
   generalize ts[2*i+1]=b at *
   generalize c[i]=l at *
   simp only [go_sem,bA,fR,g1,kH];refine ⟨by omega,?_⟩;refine aG.draw [⟨none,[],[2]⟩, .no, .no, .no, .no, .no, .no, .no, .no, .no, .no, .no, .no, .no, .no,⟨some 2,[2],[]⟩,⟨some 3,[0,3],[]⟩] 2 4 mixed rfl rfl (by decide) ?_;have h2:bP [fx (lits L),some (.var [.bool l.neg, .int .i64 l.l.head, .ps 2 (l.l.args.map Tm.aM), .int .i64 l.r.head, .ps 2 (l.r.args.map Tm.aM)]),some (.row [.agg [.bool l.neg, .int .i64 a.head, .ps 2 (a.args.map Tm.aM), .int .i64 b.head, .ps 2 (b.args.map Tm.aM)]] 0),none] 0=fx (lits L):=rfl;have CS:lits [(⟨l.neg,a,b⟩:Li)]=[.agg [.bool l.neg, .int .i64 a.head, .ps 2 (a.args.map Tm.aM), .int .i64 b.head, .ps 2 (b.args.map Tm.aM)]]:=rfl;have nO:=of_eq_true (N0 [(⟨l.neg,a,b⟩:Li)]);rw [CS] at nO;have sc:lits (L++[(⟨l.neg,a,b⟩:Li)])=lits L++[.agg [.bool l.neg, .int .i64 a.head, .ps 2 (a.args.map Tm.aM), .int .i64 b.head, .ps 2 (b.args.map Tm.aM)]]:=by rw [← CS];simp [lits]
   have lw:bF 0 (lits (L++[(⟨l.neg,a,b⟩:Li)])):=cy _;have qF:List.take 1 [ah.agg [.bool l.neg, .int .i64 a.head, .ps 2 (a.args.map Tm.aM), .int .i64 b.head, .ps 2 (b.args.map Tm.aM)]]=[.agg [.bool l.neg, .int .i64 a.head, .ps 2 (a.args.map Tm.aM), .int .i64 b.head, .ps 2 (b.args.map Tm.aM)]]:=rfl;simp only [go_sem,da,tf,Et,aj,gt1,gt2,l1',l2',fL,vX h2,nO,fR,qF];refine ⟨by omega,by omega,by omega,?_⟩;refine aG.go 1000 ?_;simp only [go_sem,hw];refine ⟨⟨(i+1,L++[(⟨l.neg,a,b⟩:Li)]),by simp only;omega,by simp only;rw [aN];simp,by simp [hL]⟩,[(0,3),(3,0)],iz rfl ?_,by simp only;omega⟩;dsimp only
   rw [sc] at lw ⊢;rw [wo (by simp),wm (by simp)];simp only [go_sem,cy,fR,cK (cy _),bW,cK (bW _),cK lw,iO (au 1) lw,aj,ax,aS]
  ·have dZ:i=c.length:=by omega
   subst dZ;rw [aX,yC.eq_2 _ _ (by simp),bu] at aN;subst aN;simp only [go_sem,bA];refine aG.go 1000 ?_;simp only [go_sem,yN];rw [rO rfl rfl];trivial
theorem Yoi {c:List Li} (h:l6 c):∀ t∈ck c,t.size<99999999∧t.fit:=fun t ht=>by
 unfold ck at ht;rw [pz] at ht;obtain ⟨l,hl,ht⟩:=ht;obtain ⟨⟨a1,a2⟩,a3,a4⟩:=h.1 l hl;simp only [aQ,dW,or_false] at ht;rcases ht with rfl | rfl
 ·exact ⟨a2,a1⟩
 ·exact ⟨a4,a3⟩
theorem Wa:∀ {ts:List Tm},(∀ t∈ts,t.fit)→Tm.fits ts
 | [],_=>trivial
 | t :: ts,h=>⟨h t (by simp),Wa fun x hx=>h x (by simp [hx])⟩
theorem JP (c:List Li) (hc:l6 c) (hs:Tm.bG (ck c)<99999999):aD Tryz.prog 34 [.ps 5 (lits c)] (.dT [.ps 5 (lits (nh c).1), .int .i64 (nh c).2]):=by
 refine aD.begin (rs:=[.tmp 2, .tmp 3]) (m:=17) 1000 Tryz.func34 rfl rfl rfl (by decide) ⟨cy _,trivial,trivial⟩ ?_;have h1:=Yfk c hc.2;have h2:=Yn3 (ck c) hs (Wa fun t ht=>(Yoi hc t ht).2);have hn:(Tm.gM (ck c) []).1.length=2*c.length:=by rw [Tb,E5]
 have h3:=Ywk c (Tm.gM (ck c) []).1 hn hc.2;have hz:nh c=if jc (ck c) then ([],1) else (yC c (Tm.gM (ck c) []).1,0):=rfl
 have hy:xq (ck c)=if jc (ck c) then ([],1) else ((Tm.gM (ck c) []).1,0):=rfl
 simp only [go_sem];refine aq.bS [] (h1) (by (try simp only [cZ]);exact cx _ _ _) (by simp [go_sem,dG,bW,cy]) ?_;rw [je];simp only [ite_self];refine aG.go 1000 ?_
 simp only [go_sem];refine aq.bS [] (h2) (by (try simp only [cZ]);exact cx _ _ _) (by simp [go_sem,dG,bW,cy]) ?_;rw [je];simp only [ite_self];refine aG.go 1000 ?_
 rw [hy,hz];cases hW:jc (ck c)
 case' true=>simp only [go_sem,show lits []=[] from rfl]
 case' false =>
  simp only [go_sem];refine aq.bS [] (h3) (by (try simp only [cZ]);exact cx _ _ _) (by simp [go_sem,dG,bW,cy]) ?_;rw [je];simp only [ite_self];refine aG.go 1000 ?_
  simp only [go_sem]
structure Wk where
 d:List Li
 u:List Int
 gone:Int
 sJ:Int
 e:Int
def lb (g:List Sy) (es:List (List Li)) (W:Wk) (j:Nat):Option bO:=some (.var [.ps 4 (syms g), .ps 1 (dp es), .ps 5 (lits W.d),jk j 1 (ints W.u), .int .i64 W.gone, .int .i64 W.sJ, .int .i64 W.e])
def pR (g:List Sy) (es:List (List Li)) (W:Wk) (j:Nat):ai:=lb g es W (j+1) :: (List.replicate j none++[fx (ints W.u)])
def kE (k:Int) (W:Wk):Wk:=if k∈W.u then W else { W with u:=W.u++[k] }
theorem Yvh (g:List Sy) (es:List (List Li)) (W:Wk) {j n:Nat} (h:j<n):jK n (lb g es W j):=by
 unfold lb;exact ⟨dy _,fO _,cy _,Bh h _ _,trivial,trivial,trivial,trivial⟩
theorem Yp3 (l:List Int) {n:Nat}:jK n (fx (ints l)):=Ag _ (dq l)
theorem GU (g:List Sy) (es:List (List Li)) (W:Wk) (j:Nat):(pR g es W j).length=j+2:=by simp [pR]
theorem Ns (g:List Sy) (es:List (List Li)) (W:Wk) (j:Nat) {n:Nat} (h:j+2≤n):bD n (pR g es W j):=by
 unfold pR;refine ⟨Yvh g es W (by omega),?_⟩
 induction j with
 | zero=>exact ⟨Yp3 _,trivial⟩
 | succ j ih =>
  rw [fZ,bp,Ug];exact ih (by omega)
def AU (g:List Sy) (es:List (List Li)) (R:ah→Nat→Wk→Prop) (r:ah) (σ':ai):Prop:=∃ m W',R r m W'∧σ'=pR g es W' m
theorem ym {g:List Sy} {es:List (List Li)} {R:ah→Nat→Wk→Prop} {r:ah} {S:ai} (m:Nat) (W':Wk) (h:R r m W') (hr:r.low 0) (hS:iP (pR g es W' m) S):na (AU g es R) 2 r S:=by
 rw [gC];exact ⟨pR g es W' m,hS,by rw [GU];omega,Ns g es W' m (by rw [GU];omega),nG (au _) hr,m,W',h,rfl⟩
def Qk (k:Int) (W:Wk) (r:ah) (m:Nat) (W':Wk):Prop:=r = .dT []∧W'=kE k W∧(m=0∨m=2)
theorem Bm (g:List Sy) (es:List (List Li)) (W:Wk):pR g es W 0=[some (.var [.ps 4 (syms g), .ps 1 (dp es), .ps 5 (lits W.d),jk 1 1 (ints W.u), .int .i64 W.gone, .int .i64 W.sJ, .int .i64 W.e]),fx (ints W.u)]:=rfl
theorem R4 (g:List Sy) (es:List (List Li)) (W:Wk) (k:Int) (hu:W.u.length<1000000):aq Tryz.prog (.fn 69 [] []) [.ptr 0 0, .int .i64 k] (pR g es W 0) (AU g es (Qk k W)):=by
 refine aq.begin (rs:=[]) (m:=19) 1000 Tryz.func69 rfl rfl rfl rfl rfl ?_;rw [Bm];simp only [go_sem];refine aq.bS [1] (IE W.u k (by omega)) ?_ ⟨dq _,trivial,trivial⟩ ?_
 ·simp only [go_sem,rr,rv,rO]
 simp only [bC,bN,bL,if_true];refine aG.go 1000 ?_;by_cases c:k∈W.u
 ·simp only [go_sem,c];exact ym 0 W ⟨rfl,by unfold kE;rw [if_pos c], .inl rfl⟩ trivial (f_ _)
 ·have h2:bP [some (.var [.ps 4 (syms g), .ps 1 (dp es), .ps 5 (lits W.d),jk 1 1 (ints W.u), .int .i64 W.gone, .int .i64 W.sJ, .int .i64 W.e]),fx (ints W.u),some (.row [.int .i64 k] 0)] 1=fx (ints W.u):=rfl;have nO:eW ⟨1,false,8,[.int .i64 0], .int .i64⟩ [.int .i64 k]:=⟨fun x hx=>by rw [aL.1 hx];exact ⟨rfl,rfl⟩,by decide,by decide,rfl⟩;have hle:W.u.length+1≤6000000000000:=by omega
  simp only [go_sem,c,vX h2,iZ,nO,hle];refine ym 2 { W with u:=W.u++[k] } ⟨rfl,by unfold kE;rw [if_neg c], .inr rfl⟩ trivial ?_;unfold pR lb;simp only
  rw [Cp,wo (by simp),wm (by simp),iZ];simp [iP,List.replicate]
theorem NZ (g:List Sy) (es:List (List Li)) (W:Wk) (j:Nat) (π:Nat→Nat):(lb g es W j).map (ef π)=lb g es W (π j):=by
 unfold lb;rw [bM];simp [ef,eK,ek,Yvu,cK (dy _),cK (fO _),cK (cy _)]
theorem MP (l:List Int) (π:Nat→Nat):(fx (ints l)).map (ef π)=fx (ints l):=by
 cases l with
 | nil=>rfl
 | cons a t =>
  have lw:bF 0 (ints (a :: t)):=dq _;show Option.map (ef π) (some (.row (ints (a :: t)) 0)) = _;rw [bM,yl,cK lw];rfl
def Yq (g:List Sy) (es:List (List Li)) (σ:ai) (a j:Nat) (W':Wk):Nat→ai
 | 0=>(σ.set a (lb g es W' j)).set j (fx (ints W'.u))
 | m+1=>(σ.set a (lb g es W' (σ.length+m))).set j none++(List.replicate m none++[fx (ints W'.u)])
theorem IB {g:List Sy} {es:List (List Li)} {W:Wk} {R:ah→Nat→Wk→Prop} {f f':ah} {args args':List ah} {σ:ai} {K:ah→ai→Prop} (a j:Nat) (XR:a≠j) (h0 : σ[a]? = some (lb g es W j)) (h1 : σ[j]? = some (fx (ints W.u)))
  (hf:f.low 2) (oM:ek (fun b=>if b=0 then a else j) f=f') (ha:bF 2 args) (ha':eK (fun b=>if b=0 then a else j) args=args')
  (h:aq Tryz.prog f args (pR g es W 0) (AU g es R)) (hr:∀ r m W',R r m W'→r.low 0) (hk:∀ r m W',R r m W'→K r (Yq g es σ a j W' m)):aq Tryz.prog f' args' σ K:=by
 have mO:a < σ.length:=(aJ.1 h0).1;have yx:j < σ.length:=(aJ.1 h1).1;have hZ:(pR g es W 0).length=2:=GU g es W 0;refine aq.mK (Z:=pR g es W 0) (fun b=>if b=0 then a else j) (fun b b' h1 h2 e=>?_) (fun b hb=>?_) (fun b hb=>?_) (by rw [hZ];exact hf) oM (by rw [hZ];exact ha) ha' (by rw [hZ];exact Ns g es W 0 (ae _)) h ?_
 ·rw [hZ] at h1 h2;split at e<;>split at e<;>first | omega | exact absurd e XR | exact absurd e.symm XR
 ·split<;>assumption
 ·rw [hZ] at hb
  match b,hb with
  | 0,_=>exact ⟨lb g es W 1,rfl,by rw [NZ];exact h0⟩
  | 1,_=>exact ⟨fx (ints W.u),rfl,by rw [MP];exact h1⟩
 rintro r Z' ⟨m,W',hR,rfl⟩;have wa:=hr r m W' hR;rw [hZ];refine ⟨by rw [GU];omega,by rw [GU];exact Ns g es W' m (ae _),nG (au _) wa,?_⟩;rw [Ba wa];have he:ka (fun b=>if b=0 then a else j) 2 (pR g es W' m) σ=Yq g es σ a j W' m:=by
  cases m with
  | zero =>
   show fK _ _ 0 [lb g es W' 1,fx (ints W'.u)] σ++[] = _;rw [bu,fK,fK,fK,NZ,MP];rfl
  | succ m =>
   show fK _ _ 0 [lb g es W' (m+2),none] σ++(List.replicate m none++[fx (ints W'.u)]).map _ = _;rw [fK,fK,fK,NZ,cY,List.map_replicate,aK,aV,MP];have:nM (fun b=>if b=0 then a else j) 2 σ.length (m+2) = σ.length+m:=by unfold nM;rw [if_neg (by omega)];omega
   rw [this];rfl
 rw [he];exact hk r m W' hR
def sE (z:Int×Wk) (r:ah) (m:Nat) (W':Wk):Prop:=r = .int .i64 z.1∧W'=z.2∧(m=0∨z.1=1∧(m=1∨m=4))
def iw (W:Wk):Int×Wk:=if kS W.d=true then (2,{ W with gone:=1 }) else (0,W)
def kB:Nat→List (List Li)→List Li→Option Nat
 | _,[],_=>none
 | k,c :: es,d=>if (nk c d).2=0∧(nk c d).1=true then some k else kB (k+1) es d
def jN (es:List (List Li)) (W:Wk):Int×Wk:=match kB 0 es W.d with
 | some k=>(2,{ W with gone:=2,sJ:=(k:Int) })
 | none=>(0,W)
theorem Yg2 (g:List Sy) (es:List (List Li)) (W:Wk) (hd:l6 W.d):aq Tryz.prog (.fn 30 [.ptr 0 0] []) [] (pR g es W 0) (AU g es (sE (iw W))):=by
 refine aq.begin (rs:=[.tmp 2]) (m:=11) 1000 Tryz.func30 rfl rfl rfl rfl rfl ?_;rw [Bm];have hT:=Ync W.d hd;simp only [go_sem];refine aq.bS [] hT (cx _ _ _) ⟨cy _,trivial⟩ ?_;simp only [bC,bN,bL,if_true];refine aG.go 1000 ?_;cases h:kS W.d
 ·simp only [go_sem];exact ym 0 W ⟨by unfold iw;rw [h];rfl,by unfold iw;rw [h];rfl, .inl rfl⟩ trivial (f_ _)
 ·simp only [go_sem];exact ym 0 { W with gone:=1 } ⟨by unfold iw;rw [h];rfl,by unfold iw;rw [h];rfl, .inl rfl⟩ trivial (f_ _)
theorem Ymb (g:List Sy) (es:List (List Li)) (W:Wk) (kj:∀ c∈es,l6 c) (hl:es.length<1000000) (hd:l6 W.d):aq Tryz.prog (.fn 33 [.ptr 0 0] []) [] (pR g es W 0) (AU g es (sE (jN es W))):=by
 refine aq.mI (rs:=[.tmp 2]) (m:=38) Tryz.func33 rfl rfl rfl rfl rfl ?_;rw [show (pR g es W 0).length=2 from rfl,Bm]
 refine aG.go 1000 ?_;simp only [go_sem,m9];refine aG.cO (ι:={i:Nat // i≤es.length∧kB i (es.drop i) W.d=kB 0 es W.d}) 1000 (fun i=>fe 39 [(0, .ptr 0 0),(2, .int .i64 0),(10, .ps 1 (dp es)),(11, .int .i64 es.length),(12, .int .i64 i.1)])
  (fun _=>pR g es W 0) (fun i=>es.length - i.1) ⟨0,au _,rfl⟩ ?_ (fun _=>ae _) ?_
 ·rw [Bm];simp only [go_sem,fO,dq,t_,dy,cy]
 ·rintro ⟨i,hi,aN⟩;rw [Bm];by_cases bA:(i:Int)<es.length
  ·have aU:i<es.length:=by omega
   have hw:IntKind.i64.wrap ((i:Int)+1)=((i+1:Nat):Int):=by rw [dQ (by omega)];omega
   rw [ao aU,kB] at aN;have g1:=Ae aU;have hc:=kj _ (aC aU);generalize es[i]=c at *
   have hS:=Yl0 c W.d hc hd;simp only [go_sem,bA,m9,g1];refine ⟨by omega,?_⟩;refine aq.bS [] hS (cx _ _ _) ⟨cy _,cy _,trivial⟩ ?_;rw [je];simp only [ite_self];refine aG.go 1000 ?_;generalize nk c W.d=z at *
   obtain ⟨z1,z2⟩:=z;simp only at aN ⊢;have hend:na (AU g es (sE (jN es W))) 2 (.int .i64 2) [some (.var [.ps 4 (syms g), .ps 1 (dp es), .ps 5 (lits W.d),jk 1 1 (ints W.u), .int .i64 2, .int .i64 i, .int .i64 W.e]),fx (ints W.u)]∨¬ (z2=0∧z1=true):=by
    by_cases hz:z2=0∧z1=true
    ·rw [if_pos hz] at aN;exact .inl (ym 0 { W with gone:=2,sJ:=(i:Int) } ⟨by unfold jN;rw [← aN],by unfold jN;rw [← aN], .inl rfl⟩ trivial (f_ _))
    ·exact .inr hz
   have wE:¬ (z2=0∧z1=true)→kB (i+1) (es.drop (i+1)) W.d=kB 0 es W.d:=fun hz=>by rw [if_neg hz] at aN;exact aN
   clear aN;by_cases h2:z2=0
   ·subst h2;cases z1
    ·simp only [go_sem,hw];refine ⟨⟨i+1,by omega,wE (by simp)⟩,?_,by simp only;omega⟩;exact ⟨rfl,fO _,⟨dy _,fO _,cy _⟩,dq _⟩
    ·simp only [go_sem,hw];refine aG.go 1000 ?_;simp only [go_sem];exact hend.resolve_right (by simp)
   ·simp only [go_sem,h2,hw];refine ⟨⟨i+1,by omega,wE (by simp [h2])⟩,?_,by simp only;omega⟩;exact ⟨rfl,fO _,⟨dy _,fO _,cy _⟩,dq _⟩
  ·have dZ:i=es.length:=by omega
   subst dZ;rw [aX,kB] at aN;simp only [go_sem,bA];refine aG.go 1000 ?_;simp only [go_sem];refine ym 0 W ⟨by unfold jN;rw [← aN],by unfold jN;rw [← aN], .inl rfl⟩ trivial (f_ _)
def nu:Nat→List (List Li)→List Li→Option (Nat×Nat)
 | _,[],_=>none
 | k,c :: es,d=>if (oi c d).2.2=0∧(oi c d).2.1=true then some (k,(oi c d).1.toNat) else nu (k+1) es d
def ml (es:List (List Li)) (W:Wk):Int×Wk:=match nu 0 es W.d with
 | some x=>(1,kE (x.1:Int) { W with d:=W.d.eraseIdx x.2 })
 | none=>(0,W)
theorem QU {c d:List Li} {k:Nat} (h:rT c d=some k):k<d.length:=by
 unfold rT at h;simpa using cb h
theorem RX {c d:List Li} (h:(oi c d).2.2=0∧(oi c d).2.1=true):∃ i:Nat,(oi c d).1=(i:Int)∧i<d.length:=by
 unfold oi at h ⊢;split at h
 ·cases h.2
 ·rename_i h0;rw [if_neg h0];cases hk:rT c d with
  | none=>rw [hk] at h;cases h.2
  | some k=>exact ⟨k,rfl,QU hk⟩
theorem Yuy (g:List Sy) (es:List (List Li)) (W:Wk) (kj:∀ c∈es,l6 c) (hl:es.length<1000000) (hd:l6 W.d) (hu:W.u.length<1000000):aq Tryz.prog (.fn 32 [.ptr 0 0] []) [] (pR g es W 0) (AU g es (sE (ml es W))):=by
 refine aq.mI (rs:=[.tmp 2]) (m:=48) Tryz.func32 rfl rfl rfl rfl rfl ?_;rw [show (pR g es W 0).length=2 from rfl,Bm]
 refine aG.go 1000 ?_;simp only [go_sem,m9];refine aG.cO (ι:={i:Nat // i≤es.length∧nu i (es.drop i) W.d=nu 0 es W.d}) 1000 (fun i=>fe 49 [(0, .ptr 0 0),(2, .int .i64 0),(11, .ps 1 (dp es)),(12, .int .i64 es.length),(13, .int .i64 i.1)])
  (fun _=>pR g es W 0) (fun i=>es.length - i.1) ⟨0,au _,rfl⟩ ?_ (fun _=>ae _) ?_
 ·rw [Bm];simp only [go_sem,fO,dq,t_,dy,cy]
 ·rintro ⟨i,hi,aN⟩;rw [Bm];by_cases bA:(i:Int)<es.length
  ·have aU:i<es.length:=by omega
   have hw:IntKind.i64.wrap ((i:Int)+1)=((i+1:Nat):Int):=by rw [dQ (by omega)];omega
   rw [ao aU,nu] at aN;have g1:=Ae aU;have hc:=kj _ (aC aU);generalize es[i]=c at *
   have hS:=Yr0 c W.d hc hd;have ig:=fun h=>RX (c:=c) (d:=W.d) h;simp only [go_sem,bA,m9,g1];refine ⟨by omega,?_⟩;refine aq.bS [] hS (cx _ _ _) ⟨cy _,cy _,trivial⟩ ?_;rw [je];simp only [ite_self];refine aG.go 1000 ?_;generalize oi c W.d=z at *
   obtain ⟨z1,z2,z3⟩:=z;simp only at aN ig ⊢;have wE:¬ (z3=0∧z2=true)→nu (i+1) (es.drop (i+1)) W.d=nu 0 es W.d:=fun hz=>by rw [if_neg hz] at aN;exact aN
   by_cases h2:z3=0
   ·subst h2;cases z2
    ·simp only [go_sem,hw];refine ⟨⟨i+1,by omega,wE (by simp)⟩,?_,by simp only;omega⟩;exact ⟨rfl,fO _,⟨dy _,fO _,cy _⟩,dq _⟩
    ·obtain ⟨k,rfl,hk⟩:=ig ⟨rfl,rfl⟩;rw [if_pos ⟨rfl,rfl⟩,aR] at aN;have FY:IntKind.i64.wrap ((k:Int)+1)=((k+1:Nat):Int):=by rw [dQ (by have:=hd.2;omega)];omega
     have eH:W.d≠[]:=by intro e;rw [e] at hk;simp at hk
     have za:=hd.2;simp only [go_sem,hw,FY];refine aq.ur [] (IX W.d eH (by omega)) (cx _ _ _) ⟨cy _,trivial⟩ ?_;rw [je];simp only [Bc,A9,Bj,yl,Bl,up,cK (cy _)];refine aG.go 1000 ?_;simp only [go_sem,bp,bn,FY];refine aq.Bo (f:=.fn 71 [] []) (args:=[.os 0 0 W.d.length 5, .int .i64 k, .int .i64 ((k+1:Nat):Int)]) (B:=.row (lits W.d) 0) 3 rfl (cy _) ⟨trivial,trivial⟩ ⟨a_,trivial,trivial,trivial⟩ ((LH W.d k hk (by omega)).mono ?_);rintro r σ' ⟨rfl,rfl⟩;refine ⟨a_,_,rfl,cy _,?_⟩;have OO:W.d.take k++W.d.drop (k+1)=W.d.eraseIdx k:=(List.eraseIdx_eq_take_drop_succ W.d k).symm;have ju:(W.d.eraseIdx k).length=W.d.length - 1:=nB hk;rw [OO];simp only [go_sem,cW,dc];refine aG.tell [3] 42 (.ps 5 (lits (W.d.eraseIdx k))) (by simp) ?_ ?_
     ·simp only [go_sem,bI,bm,fR,ju];rw [bh (by rw [fR,ju];exact ae _)];exact cx _ _ _
     simp only [go_sem,cW,dc];have hU:=R4 g es { W with d:=W.d.eraseIdx k } i hu;refine aG.go 1000 ?_;simp only [go_sem];refine IB (g:=g) (es:=es) (W:={ W with d:=W.d.eraseIdx k }) (f:=.fn 69 [] []) (args:=[.ptr 0 0, .int .i64 i]) 0 1 (by decide) rfl rfl ⟨trivial,trivial⟩ rfl ⟨cI,trivial,trivial⟩ rfl hU (fun r m W' h=>by rw [h.1];trivial) ?_;rintro r m W' ⟨rfl,On,hm⟩;have hend:∀ S,iP (pR g es W' (if m=0 then 0 else 4)) S→na (AU g es (sE (ml es W))) 2 (.int .i64 1) S:=fun S hS =>
      ym _ W' ⟨by unfold ml;rw [← aN],by unfold ml;rw [← aN];exact On,by split;exact .inl rfl;exact .inr ⟨by unfold ml;rw [← aN], .inr rfl⟩⟩ trivial hS
     rcases hm with rfl | rfl
     ·show aG _ _ _ _ _ ⟨_,[lb g es W' 1,fx (ints W'.u),none,some (.row (lits (W.d.eraseIdx k)) (max 0 (lits (W.d.eraseIdx k)).length))]⟩;refine aG.go 1000 ?_;simp only [go_sem];refine aG.go 1000 ?_;simp only [go_sem];exact hend _ (by simp [pR,iP])
     ·show aG _ _ _ _ _ ⟨_,[lb g es W' 5,none,none,some (.row (lits (W.d.eraseIdx k)) (max 0 (lits (W.d.eraseIdx k)).length)),none,fx (ints W'.u)]⟩;refine aG.go 1000 ?_;simp only [go_sem];refine aG.go 1000 ?_;simp only [go_sem];exact hend _ (by simp [pR,iP,List.replicate])
   ·simp only [go_sem,h2,hw];refine ⟨⟨i+1,by omega,wE (by simp [h2])⟩,?_,by simp only;omega⟩;exact ⟨rfl,fO _,⟨dy _,fO _,cy _⟩,dq _⟩
  ·have dZ:i=es.length:=by omega
   subst dZ;rw [aX,nu] at aN;simp only [go_sem,bA];refine aG.go 1000 ?_;simp only [go_sem];refine ym 0 W ⟨by unfold ml;rw [← aN],by unfold ml;rw [← aN], .inl rfl⟩ trivial (f_ _)
def iW:List Int→Wk→Wk
 | [],W=>W
 | k :: l,W=>iW l (kE k W)
def j4 (g:List Sy) (es:List (List Li)) (W:Wk):Int×Wk :=
 if (cL g es W.d).2.2≠0 then (2,{ W with e:=(cL g es W.d).2.2 }) else if (cL g es W.d).2.1=[] then (0,W) else (1,iW (cL g es W.d).2.1 { W with d:=iK (cL g es W.d).1 })
theorem MK (k:Int) (W:Wk):(kE k W).u.length≤W.u.length+1:=by unfold kE;split<;>simp
def AV (g:List Sy) (es:List (List Li)) (W:Wk):Bool→ai
 | true=>[lb g es W 1,fx (ints W.u),none]
 | false=>[lb g es W 2,none,fx (ints W.u)]
theorem Ykg (g:List Sy) (es:List (List Li)) (W:Wk) (fD:su es W.d) (hn:(cL g es W.d).2.2=0→l6 (cL g es W.d).1) (hu:W.u.length+(cL g es W.d).2.1.length<1000000) :
  aq Tryz.prog (.fn 31 [.ptr 0 0] []) [] (pR g es W 0) (AU g es (sE (j4 g es W))):=by
 refine aq.mI (rs:=[.tmp 2]) (m:=48) Tryz.func31 rfl rfl rfl rfl rfl ?_;rw [show (pR g es W 0).length=2 from rfl,Bm]
 have hN:=Ynk g es W.d fD;obtain ⟨Z,hZ⟩:∃ Z,j4 g es W=Z:=⟨_,rfl⟩;have y5:=hZ;unfold j4 at y5;rw [hZ];generalize cL g es W.d=z at *
 obtain ⟨z1,us,ze⟩:=z;simp only at y5 hN hn hu;refine aG.go 1000 ?_;simp only [go_sem];refine aG.draw [] 2 2 mixed rfl rfl (by decide) ?_;simp only [go_sem,da];refine kG hN (cx _ _ _) ⟨dy _,fO _,cy _,trivial⟩ ?_;simp only [go_sem];refine aG.go 1000 ?_;by_cases h0:ze=0
 case neg =>
  rw [if_pos h0] at y5;simp only [go_sem,h0];refine ym 0 { W with e:=ze } ⟨by rw [← y5],by rw [← y5], .inl rfl⟩ trivial (f_ _)
 subst h0;rw [if_neg (by simp)] at y5;by_cases h1:us=[]
 ·subst h1;rw [if_pos rfl] at y5;simp only [go_sem,iZ,aS];refine ym 0 W ⟨by rw [← y5],by rw [← y5], .inl rfl⟩ trivial (f_ _)
 rw [if_neg h1] at y5;have eH:¬ (us.length:Int)=0:=by
  intro e;exact h1 (bg (by omega))
 have hT:=Wf z1 (hn rfl);simp only [go_sem,iZ,eH];refine aq.bS [] hT (cx _ _ _) ⟨cy _,trivial⟩ ?_;rw [je];simp only [ite_self];refine aG.go 1000 ?_;simp only [go_sem,iZ];have ya:us.length<1000000:=by omega
 refine aG.gf (ι:={q:Nat×Wk×Bool // q.1≤us.length∧(1,iW (us.drop q.1) q.2.1)=Z∧q.2.1.u.length≤W.u.length+q.1}) 1000 (fun q=>fe 49 [(0, .ptr 0 0),(2, .int .i64 0),(39, .ps 1 (ints us)),(40, .int .i64 us.length),(41, .int .i64 q.1.1)])
  (fun q=>AV g es q.1.2.1 q.1.2.2) (fun q=>us.length - q.1.1) ⟨(0,{ W with d:=iK z1 },true),au _,y5,ae _⟩ [] ?_ (fun q=>by show 2≤(AV g es q.1.2.1 q.1.2.2).length;cases q.1.2.2<;>simp [AV]) ?_
 ·refine iz rfl ?_;unfold AV lb;simp only [go_sem,fO,dq,t_,dy,cy,cK (fO _),cK (dq _),cK (dy _),cK (cy _)]
 ·rintro ⟨⟨i,X,b⟩,hi,aN,hX⟩;simp only at hi aN hX;by_cases bA:(i:Int)<us.length
  ·have aU:i<us.length:=by omega
   have hw:IntKind.i64.wrap ((i:Int)+1)=((i+1:Nat):Int):=by rw [dQ (by omega)];omega
   rw [ao aU,iW] at aN;have g1:=s0 aU;generalize us[i]=k at *
   have hU:=R4 g es X k (by omega);have hUl:=MK k X;simp only [go_sem,bA,iZ,g1];refine ⟨by omega,?_⟩;have fP:(i+1≤us.length∧(1,iW (us.drop (i+1)) (kE k X))=Z∧(kE k X).u.length≤W.u.length+(i+1)):=⟨by omega,aN,by omega⟩;cases b
   ·refine IB (g:=g) (es:=es) (W:=X) (f:=.fn 69 [] []) (args:=[.ptr 0 0, .int .i64 k]) 0 2 (by decide) rfl rfl ⟨trivial,trivial⟩ rfl ⟨cI,trivial,trivial⟩ rfl hU (fun r m W' h=>by rw [h.1];trivial) ?_;rintro r m W' ⟨rfl,rfl,hm⟩;generalize kE k X=X' at *
    rcases hm with rfl | rfl
    ·show aG _ _ _ _ _ ⟨_,[lb g es X' 2,none,fx (ints X'.u)]⟩;refine aG.go 1000 ?_;simp only [go_sem,hw];refine ⟨⟨(i+1,X',false),fP⟩,[],iz rfl ?_,by simp only;omega⟩;unfold AV lb;simp only [go_sem,fO,dq,t_,dy,cy,cK (fO _),cK (dq _),cK (dy _),cK (cy _)]
    ·show aG _ _ _ _ _ ⟨_,[lb g es X' 4,none,none,none,fx (ints X'.u)]⟩;refine aG.go 1000 ?_;simp only [go_sem,hw];refine ⟨⟨(i+1,X',false),fP⟩,[(2,4),(4,2)],iz rfl ?_,by simp only;omega⟩;unfold AV lb;simp only [go_sem,fO,dq,t_,dy,cy,cK (fO _),cK (dq _),cK (dy _),cK (cy _)]
   ·refine IB (g:=g) (es:=es) (W:=X) (f:=.fn 69 [] []) (args:=[.ptr 0 0, .int .i64 k]) 0 1 (by decide) rfl rfl ⟨trivial,trivial⟩ rfl ⟨cI,trivial,trivial⟩ rfl hU (fun r m W' h=>by rw [h.1];trivial) ?_;rintro r m W' ⟨rfl,rfl,hm⟩;generalize kE k X=X' at *
    rcases hm with rfl | rfl
    ·show aG _ _ _ _ _ ⟨_,[lb g es X' 1,fx (ints X'.u),none]⟩;refine aG.go 1000 ?_;simp only [go_sem,hw];refine ⟨⟨(i+1,X',true),fP⟩,[],iz rfl ?_,by simp only;omega⟩;unfold AV lb;simp only [go_sem,fO,dq,t_,dy,cy,cK (fO _),cK (dq _),cK (dy _),cK (cy _)]
    ·show aG _ _ _ _ _ ⟨_,[lb g es X' 4,none,none,none,fx (ints X'.u)]⟩;refine aG.go 1000 ?_;simp only [go_sem,hw];refine ⟨⟨(i+1,X',false),fP⟩,[(2,4),(4,2)],iz rfl ?_,by simp only;omega⟩;unfold AV lb;simp only [go_sem,fO,dq,t_,dy,cy,cK (fO _),cK (dq _),cK (dy _),cK (cy _)]
  ·have dZ:i=us.length:=by omega
   subst dZ;rw [aX,iW] at aN;simp only [go_sem,bA];refine aG.go 1000 ?_;simp only [go_sem];cases b
   ·exact ym 1 X ⟨by rw [← aN],by rw [← aN], .inr ⟨by rw [← aN], .inl rfl⟩⟩ trivial (by simp [pR,AV,iP,List.replicate])
   ·exact ym 0 X ⟨by rw [← aN],by rw [← aN], .inl rfl⟩ trivial (by simp [pR,AV,iP,List.replicate])
end Go.Proofs
namespace Go.Proofs
open Go Go.dm
def dE:List (Wk→Int×Wk)→Wk→Int×Wk
 | [],W=>(0,W)
 | F :: l,W=>if (F W).1=0 then dE l W else F W
def cP (g:List Sy) (es:List (List Li)):List (Wk→Int×Wk):=[iw,j4 g es,ml es,jN es]
def rV (g:List Sy) (es:List (List Li)):Nat→Wk→Wk
 | 0,W=>W
 | n+1,W=>if (dE (cP g es) W).1=1 then rV g es n (dE (cP g es) W).2 else (dE (cP g es) W).2
def xB (c:List Li):Wk:=⟨iK c,[],0, -1,0⟩
structure Si where
 d:List Li
 u:List Int
 gone:Int
 sJ:Int
def Si.aM (s:Si):ah:=.agg [.ps 5 (lits s.d), .ps 1 (ints s.u), .int .i64 s.gone, .int .i64 s.sJ]
def mL (W:Wk):Si×Int:=if W.e≠0 then (⟨[],[],0,0⟩,W.e) else if (nh W.d).2≠0 then (⟨[],[],0,0⟩,(nh W.d).2) else (⟨(nh W.d).1,W.u,W.gone,W.sJ⟩,0)
def iJ (g:List Sy) (es:List (List Li)) (c:List Li):Si×Int:=if cQ g (c :: es)≠0 then (⟨[],[],0,0⟩,cQ g (c :: es)) else mL (rV g es 70 (xB c))
def ng (a b:Prop) (z:Int×Wk) (W:Wk):Prop:=(z.1=0∧z.2=W)∨(a∧z.1=1)∨(b∧z.1=2)
theorem Yhh (W:Wk):ng False True (iw W) W:=by
 unfold iw ng;split
 ·exact .inr (.inr ⟨trivial,rfl⟩)
 ·exact .inl ⟨rfl,rfl⟩
theorem Yne (g:List Sy) (es:List (List Li)) (W:Wk):ng True True (j4 g es W) W:=by
 unfold j4 ng;split
 ·exact .inr (.inr ⟨trivial,rfl⟩)
 ·split
  ·exact .inl ⟨rfl,rfl⟩
  ·exact .inr (.inl ⟨trivial,rfl⟩)
theorem Yvi (es:List (List Li)) (W:Wk):ng True False (ml es W) W:=by
 unfold ml ng;split
 ·exact .inr (.inl ⟨trivial,rfl⟩)
 ·exact .inl ⟨rfl,rfl⟩
theorem Ymm (es:List (List Li)) (W:Wk):ng False True (jN es W) W:=by
 unfold jN ng;split
 ·exact .inr (.inr ⟨trivial,rfl⟩)
 ·exact .inl ⟨rfl,rfl⟩
def sN (o:Option bO) (g:List Sy) (es:List (List Li)) (W:Wk):ai:=[o,lb g es W 3,some (.row [.fn 30 [.ptr 1 0] [], .fn 31 [.ptr 1 0] [], .fn 32 [.ptr 1 0] [], .fn 33 [.ptr 1 0] []] 0),fx (ints W.u)]
theorem JV {o:Option bO} {g:List Sy} {es:List (List Li)} {W:Wk} {z:Int×Wk} {f:FuncId} {K:ah→ai→Prop} (h:aq Tryz.prog (.fn f [.ptr 0 0] []) [] (pR g es W 0) (AU g es (sE z)))
  (h0:K (.int .i64 z.1) (sN o g es z.2))
  (h1:z.1=1→K (.int .i64 z.1) [o,lb g es z.2 4,some (.row [.fn 30 [.ptr 1 0] [], .fn 31 [.ptr 1 0] [], .fn 32 [.ptr 1 0] [], .fn 33 [.ptr 1 0] []] 0),none,fx (ints z.2.u)])
  (h4:z.1=1→K (.int .i64 z.1) [o,lb g es z.2 7,some (.row [.fn 30 [.ptr 1 0] [], .fn 31 [.ptr 1 0] [], .fn 32 [.ptr 1 0] [], .fn 33 [.ptr 1 0] []] 0),none,none,none,none,fx (ints z.2.u)]) :
  aq Tryz.prog (.fn f [.ptr 1 0] []) [] (sN o g es W) K:=by
 refine IB (g:=g) (es:=es) (W:=W) (f:=.fn f [.ptr 0 0] []) (args:=[]) 1 3 (by decide) rfl rfl ⟨⟨cI,trivial⟩,trivial⟩ rfl trivial rfl h (fun r m W' h=>by rw [h.1];trivial) ?_;rintro r m W' ⟨rfl,rfl,rfl | ⟨h5,rfl | rfl⟩⟩
 ·exact h0
 ·exact h1 h5
 ·exact h4 h5
theorem Yf2 (es:List (List Li)) (hl:es.length<1000000) {o:Option bO} {K:ah→ai→Prop} (h1:es=[]→K .aW [o]) (h2:es=[]→K (.os 2 0 0 1) [o,none,some (.row [] 0)]) (h3:es≠[]→K (.os 2 0 es.length 1) [o,none,some (.row (dp es) 0)]) :
  aq Tryz.prog (.fn 27 [] []) [.ps 1 (dp es)] [o] K:=by
 have wA:(es=[]∨es≠[]):=by cases es<;>simp
 rcases wA with rfl | eH
 ·refine aq.mK (Z:=[]) (f:=.fn 27 [] []) (args:=[.ps 1 []]) (fun b=>b) (fun b b' h=>by simp at h) (fun b h=>by simp at h) (fun b h=>by simp at h) ⟨trivial,trivial⟩ rfl ⟨trivial,trivial⟩ rfl trivial (cg.v Tk) ?_;rintro r Z' (⟨rfl,rfl⟩ | ⟨rfl,rfl⟩)
  ·exact ⟨ae _,trivial,trivial,h1 rfl⟩
  ·exact ⟨au _,by simp [go_sem],eN,h2 rfl⟩
 ·refine aq.ur [] (Uk es eH (by omega)) (cx _ _ _) ⟨fO _,trivial⟩ ?_;rw [je];simp only [Bc,A9,Bj,yl,Bl,up,cK (fO _)];exact h3 eH
theorem Nw (es:List (List Li)) (c:List Li) (hl:es.length<1000000) {o:Option bO} {K:ah→ai→Prop} :
  (es=[]→K (.ps 1 (dp (c :: es))) [o,none]→aq Tryz.prog (.fn 26 [] []) [.aW, .int .i64 0, .os 1 0 1 1] [o,some (.row [.ps 5 (lits c)] 0)] K) ∧
  (es=[]→K (.ps 1 (dp (c :: es))) [o,none,none,none]→aq Tryz.prog (.fn 26 [] []) [.os 2 0 0 1, .int .i64 0, .os 3 0 1 1] [o,none,some (.row [] 0),some (.row [.ps 5 (lits c)] 0)] K) ∧
  (es≠[]→K (.ps 1 (dp (c :: es))) [o,none,none,none]→aq Tryz.prog (.fn 26 [] []) [.os 2 0 es.length 1, .int .i64 0, .os 3 0 1 1] [o,none,some (.row (dp es) 0),some (.row [.ps 5 (lits c)] 0)] K):=by
 have XI:∀ b,b<3→b=0∨b=1∨b=2:=fun b hb=>by omega
 have lc:=cy (n:=0) c;have le:=fO (n:=0) es;have lr:=fO (n:=0) (c :: es);refine ⟨fun h hk=>?_,fun h hk=>?_,fun h hk=>?_⟩
 ·subst h;refine aq.mK (Z:=[some (.row [.ps 5 (lits c)] 0)]) (f:=.fn 26 [] []) (args:=[.aW, .int .i64 0, .os 0 0 1 1]) (fun b=>b+1) (fun b b' h1 h2 e=>by omega) (fun b h=>by simp at h ⊢;omega) (fun b h=>?_) ⟨trivial,trivial⟩ rfl ⟨trivial,trivial,Nat.one_pos,trivial⟩ rfl ?_ (cg.v (S5 c)) ?_
  ·obtain rfl:b=0:=by simp at h;exact h
   exact ⟨_,rfl,by simp [go_sem,cK lc]⟩
  ·simp [go_sem,cy]
  rintro r Z' ⟨rfl,rfl⟩;exact ⟨ae _,by simp [go_sem],fO _,by rw [Ba (show ah.low 0 (.ps 1 (dp [c])) from lr)];exact hk⟩
 ·subst h;refine aq.mK (Z:=[none,some (.row [] 0),some (.row [.ps 5 (lits c)] 0)]) (f:=.fn 26 [] []) (args:=[.os 1 0 0 1, .int .i64 0, .os 2 0 1 1]) (fun b=>b+1) (fun b b' h1 h2 e=>by omega) (fun b h=>by simp at h ⊢;omega) (fun b h=>?_) ⟨trivial,trivial⟩ rfl ⟨(show (1:Nat)<3 by decide),trivial,(show (2:Nat)<3 by decide),trivial⟩ rfl ?_ (cg.v (SY c)) ?_
  ·rcases XI b h with rfl | rfl | rfl<;>exact ⟨_,rfl,by simp [go_sem,cK lc]⟩
  ·simp [go_sem,cy]
  rintro r Z' ⟨rfl,rfl⟩;exact ⟨ae _,by simp [go_sem],fO _,by rw [Ba (show ah.low 0 (.ps 1 (dp [c])) from lr)];exact hk⟩
 ·refine aq.mK (Z:=[none,some (.row (dp es) 0),some (.row [.ps 5 (lits c)] 0)]) (f:=.fn 26 [] []) (args:=[.os 1 0 es.length 1, .int .i64 0, .os 2 0 1 1]) (fun b=>b+1) (fun b b' h1 h2 e=>by omega) (fun b h=>by simp at h ⊢;omega) (fun b h=>?_) ⟨trivial,trivial⟩ rfl ⟨(show (1:Nat)<3 by decide),trivial,(show (2:Nat)<3 by decide),trivial⟩ rfl ?_ (cg.v (Tp es c h hl)) ?_
  ·rcases XI b ‹_› with rfl | rfl | rfl<;>exact ⟨_,rfl,by simp [go_sem,cK lc,cK le]⟩
  ·simp [go_sem,cy,fO]
  rintro r Z' ⟨rfl,rfl⟩;exact ⟨ae _,by simp [go_sem],fO _,by rw [Ba (show ah.low 0 (.ps 1 (dp (c :: es))) from lr)];exact hk⟩
end Go.Proofs
