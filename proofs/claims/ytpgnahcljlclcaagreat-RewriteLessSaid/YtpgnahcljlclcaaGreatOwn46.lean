/- Part 46 of my own framework and of the walks of functions: Wm, Wn, Wo, Wp, Wq, Wr, Ws, Ya, Yb, Yc, Yd, Za, Ye, Yf, Yg, Yh, Yi, Vf, Yj, Zb, Zc, Ze, Zf. -/
import Derived.Test.YtpgnahcljlclcaaGreatOwn45
set_option linter.unusedVariables false
set_option linter.unusedSectionVars false
set_option linter.unusedSimpArgs false
namespace Go.Proofs
open Go Go.Abs
attribute [local go_sem] Nat.reduceAdd Nat.reduceSub Nat.reduceMul Nat.reduceLeDiff Nat.reduceEqDiff Nat.reduceBEq Nat.reduceLT Nat.le_refl Int.natCast_zero Nat.sub_zero List.length_map Int.toNat_natCast Int.natCast_one Int.reduceEq Int.reduceLT Int.reduceLE Int.reduceNe Int.sub_zero Int.zero_add Int.toNat_one
def msC {α:Type} (same gt : α→α→Bool) (a b:List α):Int :=
 if (woL same b a (List.replicate b.length false)).length+(woL same a b (List.replicate a.length false)).length=0 then 0 else
 if ovD gt (woL same b a (List.replicate b.length false)) (woL same a b (List.replicate a.length false))=true then 1 else
 if ovD gt (woL same a b (List.replicate a.length false)) (woL same b a (List.replicate b.length false))=true then -1 else 2
def st9 (g:List Sy) (a b:Li):Int:=msC eqT (Tm.gr g) (rowL a) (rowL b)
def rtL (g:List Sy) (l:Li):Prop:=rtT g l.l∧rtT g l.r
theorem Zzw {g:List Sy} {l:Li} (h:rtL g l):∀ x∈rowL l,rtT g x:=fun x hx=>by
 rcases Zlh hx with rfl | rfl
 ·exact h.1
 ·exact h.2
def st10 (g:List Sy) (c d:List Li):Int:=msC sameL (fun x y=>decide (st9 g x y=1)) c d
theorem Yg5 {g:List Sy} {c:List Li} (hc:rtC g c):∀ s∈spotsF c 0,rtT g s.t:=fun s hs=>by
 obtain ⟨j,hj,h1,h2,h3⟩:=Zch c 0 s hs
 exact Zj8 Zma _ _ _ (Zej hc (List.getElem_mem hj) s.rt) h2
end Go.Proofs
namespace Go.Proofs
open Go Go.Abs
theorem Zsa (h k s:Int):∀ l:List (Int×Int),lookL (updL l k s) h=lookL l h+if h=k then s else 0
 | []=>by
  simp only [updL,lookL]
  by_cases e:h=k
  ·rw [if_pos e.symm,if_pos e];omega
  ·rw [if_neg (Ne.symm e),if_neg e];rfl
 | x :: r=>by
  have ih:=Zsa h k s r
  simp only [updL]
  split
  ·rename_i e
   simp only [lookL]
   by_cases e2:x.1=h
   ·rw [if_pos e2,if_pos e2,if_pos (by omega)]
   ·rw [if_neg e2,if_neg e2,if_neg (by omega)];omega
  ·rename_i e
   simp only [lookL]
   by_cases e2:x.1=h
   ·rw [if_pos e2,if_pos e2,if_neg (by omega)];omega
   ·rw [if_neg e2,if_neg e2,ih]
theorem Zmp (k s:Int):∀ (l:List (Int×Int)) (h:Int),h∈(updL l k s).map Prod.fst↔h=k∨h∈l.map Prod.fst
 | [],h=>by simp [updL]
 | x :: r,h=>by
  have ih:=Zmp k s r h
  simp only [updL]
  split
  ·rename_i e
   simp only [List.map_cons,List.mem_cons]
   rw [← e];constructor
   ·rintro (h1 | h1);exact .inl h1;exact .inr (.inr h1)
   ·rintro (h1 | h1 | h1);exact .inl h1;exact .inl h1;exact .inr h1
  ·simp only [List.map_cons,List.mem_cons,ih]
   constructor
   ·rintro (h1 | h1 | h1);exact .inr (.inl h1);exact .inl h1;exact .inr (.inr h1)
   ·rintro (h1 | h1 | h1);exact .inr (.inl h1);exact .inl h1;exact .inr (.inr h1)
theorem Znt (k s:Int):∀ (l:List (Int×Int)),(l.map Prod.fst).Nodup→((updL l k s).map Prod.fst).Nodup
 | [],_=>by simp [updL]
 | x :: r,h=>by
  simp only [List.map_cons,List.nodup_cons] at h
  simp only [updL]
  split
  ·rename_i e
   simp only [List.map_cons,List.nodup_cons]
   exact h
  ·rename_i e
   simp only [List.map_cons,List.nodup_cons]
   refine ⟨fun hm=>?_,Znt k s r h.2⟩
   rcases (Zmp k s r x.1).1 hm with h1 | h1
   ·exact e h1
   ·exact h.1 h1
def tabL (l:List (Int×Int)):Prop:=(l.map Prod.fst).Nodup∧∀ h∈l.map Prod.fst,h<0
theorem Zto {l:List (Int×Int)}:∀ (_:(l.map Prod.fst).Nodup) (x:Int×Int),x∈l→lookL l x.1=x.2:=by
 induction l with
 | nil=>intro _ x h;cases h
 | cons a l ih =>
  intro hn x hx
  simp only [List.map_cons,List.nodup_cons] at hn
  simp only [lookL]
  rcases List.mem_cons.1 hx with rfl | hx
  ·rw [if_pos rfl]
  ·rw [if_neg (fun e:a.1=x.1=>hn.1 (by rw [e];exact List.mem_map_of_mem hx))]
   exact ih hn.2 x hx
theorem Zx0 {l:List (Int×Int)} {h:Int}:h ∉ l.map Prod.fst→lookL l h=0:=by
 induction l with
 | nil=>intro _;rfl
 | cons a l ih =>
  intro hn
  simp only [List.map_cons,List.mem_cons,not_or] at hn
  simp only [lookL]
  rw [if_neg (Ne.symm hn.1)]
  exact ih hn.2
theorem Zth {l:List (Int×Int)} (hl:tabL l) (p:Int→Bool) (hp:p 0=false):(l.map Prod.snd).any p=true↔∃ h,h<0∧p (lookL l h)=true:=by
 rw [List.any_eq_true]
 constructor
 ·rintro ⟨y,hy,hpy⟩
  obtain ⟨x,hx,rfl⟩:=List.mem_map.1 hy
  exact ⟨x.1,hl.2 _ (List.mem_map_of_mem hx),by rw [Zto hl.1 x hx];exact hpy⟩
 ·rintro ⟨h,_,hph⟩
  by_cases hm:h∈l.map Prod.fst
  ·obtain ⟨x,hx,rfl⟩:=List.mem_map.1 hm
   exact ⟨x.2,List.mem_map_of_mem hx,by rw [← Zto hl.1 x hx];exact hph⟩
  ·rw [Zx0 hm,hp] at hph;cases hph
mutual
theorem Zmh (g:List Sy) (s:Int):∀ (t:Tm) (x:Int×List (Int×Int)),t.good=true→tabL x.2→(ldT g s t x).1=x.1+s*t.wgt g∧tabL (ldT g s t x).2∧∀ h,h<0→lookL (ldT g s t x).2 h=lookL x.2 h+s*(t.cv (-1 - h):Int)
 | .mk k ts,x,hg,hx=>by
  obtain ⟨g1,g2,g3,g4⟩:=Zo8 hg
  simp only [Tm.head,Tm.args] at g1 g2 g3 g4
  rw [ldT,Tm.wgt]
  by_cases hn:k<0
  ·rw [if_pos hn,if_pos hn]
   have hts:=g4 hn
   refine ⟨by simp only;omega,⟨Znt k s _ hx.1,fun h hm=>?_⟩,fun h hh=>?_⟩
   ·rcases (Zmp k s _ h).1 hm with rfl | hm
    ·exact hn
    ·exact hx.2 h hm
   ·simp only
    rw [Zsa,Tm.cv,hts,Tm.cvs]
    by_cases e:h=k
    ·rw [if_pos e,if_pos (by omega)];simp
    ·rw [if_neg e,if_neg (by omega)];simp
  ·rw [if_neg hn,if_neg hn]
   have hga:Tm.goods ts=true:=by rw [Tm.good,Bool.and_eq_true] at hg;exact hg.2
   obtain ⟨a1,a2,a3⟩:=Zms g s ts (x.1+s*wtOf g k,x.2) hga hx
   refine ⟨?_,a2,fun h hh=>?_⟩
   ·rw [a1]
    have:=Zgf g ts 0 (wtOf g k)
    rw [Int.zero_add] at this
    rw [this,Int.mul_add]
    simp only;omega
   ·rw [a3 h hh,Tm.cv,if_neg (by omega),Nat.zero_add]
theorem Zms (g:List Sy) (s:Int):∀ (ts:List Tm) (x:Int×List (Int×Int)),Tm.goods ts=true→tabL x.2→(ldTs g s ts x).1=x.1+s*Tm.wgts g ts 0∧tabL (ldTs g s ts x).2∧∀ h,h<0→lookL (ldTs g s ts x).2 h=lookL x.2 h+s*(Tm.cvs (-1 - h) ts:Int)
 | [],x,_,hx=>by
  rw [ldTs]
  exact ⟨by simp [Tm.wgts],hx,fun h _=>by simp [Tm.cvs]⟩
 | t :: ts,x,hg,hx=>by
  rw [Tm.goods,Bool.and_eq_true] at hg
  rw [ldTs]
  obtain ⟨a1,a2,a3⟩:=Zmh g s t x hg.1 hx
  obtain ⟨b1,b2,b3⟩:=Zms g s ts _ hg.2 a2
  refine ⟨?_,b2,fun h hh=>?_⟩
  ·rw [b1,a1,Tm.wgts]
   have:=Zgf g ts 0 (t.wgt g)
   rw [this,Int.mul_add];omega
  ·rw [b3 h hh,a3 h hh,Tm.cvs]
   push_cast
   rw [Int.mul_add];omega
end
theorem Zmc (g:List Sy) {t u:Tm} (ht:t.good=true) (hu:u.good=true):(ldD g t u).1=t.wgt g - u.wgt g∧tabL (ldD g t u).2∧∀ h,h<0→lookL (ldD g t u).2 h=(t.cv (-1 - h):Int) - u.cv (-1 - h):=by
 have h0:tabL ([]:List (Int×Int)):=⟨by simp,fun h hh=>by simp at hh⟩
 obtain ⟨a1,a2,a3⟩:=Zmh g 1 t (0,[]) ht h0
 obtain ⟨b1,b2,b3⟩:=Zmh g (-1) u _ hu a2
 unfold ldD
 refine ⟨by rw [b1,a1];simp only;omega,b2,fun h hh=>?_⟩
 rw [b3 h hh,a3 h hh]
 simp only [lookL];omega
mutual
theorem Ya9 {v:Int} (hv : 0≤v):∀ t:Tm,t.allV (fun w=>w≠v)→t.cv v=0
 | .mk h ts,ha=>by
  rw [Tm.cv,Zs3 hv ts ha.2]
  by_cases e:h = -1 - v
  ·exact absurd (by omega) (ha.1 (by omega))
  ·rw [if_neg e]
theorem Zs3 {v:Int} (hv : 0≤v):∀ ts:List Tm,Tm.allVs (fun w=>w≠v) ts→Tm.cvs v ts=0
 | [],_=>rfl
 | t :: ts,ha=>by rw [Tm.cvs,Ya9 hv t ha.1,Zs3 hv ts ha.2]
end
theorem Ylk {v:Int} (hv : 0≤v) {t:Tm} (h:v ∉ t.vars):t.cv v=0 :=
 Ya9 hv t ((Zm7 t).1 fun w hw e=>h (e ▸ hw))
theorem Zg6 (a b:Tm):oftenD a b=true↔∀ v,0≤v→b.cv v≤a.cv v:=by
 unfold oftenD
 rw [List.all_eq_true]
 constructor
 ·intro h v hv
  by_cases hm:v∈b.vars
  ·exact of_decide_eq_true (h v hm)
  ·rw [Ylk hv hm];exact Nat.zero_le _
 ·intro h v hm
  exact decide_eq_true (h v (Zqh b v hm))
theorem Zvp {g:List Sy} {t u:Tm} (ht:t.good=true) (hu:u.good=true):(((ldD g t u).2.map Prod.snd).any fun n=>decide (n<0)) = !oftenD t u:=by
 obtain ⟨_,h2,h3⟩:=Zmc g ht hu
 have h:=Zth h2 (fun n=>decide (n<0)) rfl
 rw [Bool.eq_iff_iff,h,Bool.not_eq_true',← Bool.not_eq_true,Zg6]
 constructor
 ·rintro ⟨k,hk,hp⟩ hall
  have:=hall (-1 - k) (by omega)
  have hp:=of_decide_eq_true hp
  rw [h3 k hk] at hp
  omega
 ·intro hn
  obtain ⟨v,hv⟩:=Classical.not_forall.1 hn
  obtain ⟨hv0,hv1⟩:=Classical.not_imp.1 hv
  refine ⟨-1 - v,by omega,decide_eq_true ?_⟩
  rw [h3 _ (by omega),show -1 - (-1 - v)=v by omega]
  omega
theorem Zus {g:List Sy} {t u:Tm} (ht:t.good=true) (hu:u.good=true):(((ldD g t u).2.map Prod.snd).any fun n=>decide (0<n)) = !oftenD u t:=by
 obtain ⟨_,h2,h3⟩:=Zmc g ht hu
 have h:=Zth h2 (fun n=>decide (0<n)) rfl
 rw [Bool.eq_iff_iff,h,Bool.not_eq_true',← Bool.not_eq_true,Zg6]
 constructor
 ·rintro ⟨k,hk,hp⟩ hall
  have:=hall (-1 - k) (by omega)
  have hp:=of_decide_eq_true hp
  rw [h3 k hk] at hp
  omega
 ·intro hn
  obtain ⟨v,hv⟩:=Classical.not_forall.1 hn
  obtain ⟨hv0,hv1⟩:=Classical.not_imp.1 hv
  refine ⟨-1 - v,by omega,decide_eq_true ?_⟩
  rw [h3 _ (by omega),show -1 - (-1 - v)=v by omega]
  omega
theorem Ygy {g:List Sy} {t u:Tm} (ht:t.good=true) (hu:u.good=true) (n:Int):sdL (ldD g t u) n=sideF n (!oftenD u t) (!oftenD t u):=by
 unfold sdL;rw [Zvp ht hu,Zus ht hu]
theorem Ykw {g:List Sy} {t u:Tm} (ht:t.good=true) (hu:u.good=true) {n:Int}:sdL (ldD g t u) n=1↔0<n∧oftenD t u=true:=by
 rw [Ygy ht hu];unfold sideF
 by_cases h1 : 0<n∧(!oftenD t u)=false
 ·rw [if_pos h1];simpa using h1
 ·rw [if_neg h1]
  simp only [Bool.not_eq_false'] at h1
  split<;>(constructor<;>intro h<;>first | omega | exact absurd h h1)
theorem Yl9 {g:List Sy} {t u:Tm} (ht:t.good=true) (hu:u.good=true) {n:Int}:sdL (ldD g t u) n = -1↔n<0∧oftenD u t=true:=by
 rw [Ygy ht hu];unfold sideF
 by_cases h1 : 0<n∧(!oftenD t u)=false
 ·rw [if_pos h1]
  constructor
  ·intro h;omega
  ·intro h;omega
 ·rw [if_neg h1]
  by_cases h2:n<0∧(!oftenD u t)=false
  ·rw [if_pos h2];simpa using h2
  ·rw [if_neg h2]
   simp only [Bool.not_eq_false'] at h2
   constructor
   ·intro h;omega
   ·intro h;exact absurd h h2
theorem Zzx (x:Int×List (Int×Int)) (n:Int):sdL x n≠0:=by
 unfold sdL sideF
 split
 ·omega
 split<;>omega
theorem Znb (g:List Sy) (t u:Tm):standF g t u=if t=u then 0 else if (ldD g t u).1≠0 then sdL (ldD g t u) (ldD g t u).1 else
  if t.head<0∨u.head<0 then 2 else if t.head≠u.head then sdL (ldD g t u) (t.head - u.head) else standA g (ldD g t u) t.args u.args:=by
 cases t;rw [standF];rfl
theorem Ye4 (g:List Sy) (t u:Tm):t.gr g u=if oftenD t u=false then false else if t.wgt g≠u.wgt g then decide (u.wgt g<t.wgt g) else if t.head<0∨u.head<0 then false else if t.head≠u.head then decide (u.head<t.head) else Tm.grL g t.args u.args:=by
 cases t;rw [Tm.gr];rfl
theorem Ypd {t u:Tm} (h1:t.head=u.head) (h2:t.args=u.args):t=u:=by
 cases t;cases u;simp only [Tm.head,Tm.args] at h1 h2;rw [h1,h2]
theorem Zmo (x:Int×List (Int×Int)) (n:Int):sdL x n=1∨sdL x n = -1∨sdL x n=2:=by
 unfold sdL sideF
 split
 ·exact .inl rfl
 split
 ·exact .inr (.inl rfl)
 ·exact .inr (.inr rfl)
theorem Zji (g:List Sy) (x:Int×List (Int×Int)):∀ ts us:List Tm,standA g x ts us=0∨standA g x ts us=1∨standA g x ts us = -1∨standA g x ts us=2
 | [],_=>by rw [standA];simp
 | _ :: _,[]=>by rw [standA];simp
 | t :: ts,u :: us=>by
  rw [standA]
  split
  ·split
   ·exact .inr (.inr (.inr rfl))
   ·exact .inr (Zmo _ _)
  ·exact Zji g x ts us
theorem Zkl (g:List Sy) (t u:Tm):standF g t u=0∨standF g t u=1∨standF g t u = -1∨standF g t u=2:=by
 rw [Znb]
 split
 ·exact .inl rfl
 split
 ·exact .inr (Zmo _ _)
 split
 ·exact .inr (.inr (.inr rfl))
 split
 ·exact .inr (Zmo _ _)
 ·exact Zji _ _ _ _
def agree (g:List Sy) (t u:Tm):Prop:=(standF g t u=1↔t.gr g u=true)∧(standF g t u = -1↔u.gr g t=true)∧(standF g t u=0↔t=u)
theorem Zhp {g:List Sy} {x y:Tm} (hx:x.good=true) (hy:y.good=true):∀ (ts us:List Tm),ts.length=us.length→(∀ t∈ts, ∀ u∈us,agree g t u) →
  (standA g (ldD g x y) ts us=1↔Tm.grL g ts us=true∧oftenD x y=true)∧(standA g (ldD g x y) ts us = -1↔Tm.grL g us ts=true∧oftenD y x=true)∧(standA g (ldD g x y) ts us=0↔ts=us)
 | [],[],_,_=>by
  rw [standA,Tm.grL]
  exact ⟨⟨fun h=>by omega,fun h=>by cases h.1⟩,⟨fun h=>by omega,fun h=>by cases h.1⟩,by simp⟩
 | t :: ts,u :: us,hl,h=>by
  obtain ⟨a1,a2,a3⟩:=h t (by simp) u (by simp)
  have ih:=Zhp hx hy ts us (by simpa using hl) (fun a ha b hb=>h a (by simp [ha]) b (by simp [hb]))
  rw [standA,Tm.grL,Tm.grL]
  by_cases e:t=u
  ·rw [if_neg (fun hn=>hn (a3.2 e)),if_pos e,if_pos e.symm]
   refine ⟨ih.1,ih.2.1,?_⟩
   rw [ih.2.2,e];simp
  ·have hne:standF g t u≠0:=fun h0=>e (a3.1 h0)
   rw [if_pos hne,if_neg e,if_neg (Ne.symm e)]
   by_cases h2:standF g t u=2
   ·rw [if_pos h2]
    refine ⟨⟨fun h=>by omega,fun h=>?_⟩,⟨fun h=>by omega,fun h=>?_⟩,⟨fun h=>by omega,fun h=>?_⟩⟩
    ·have:=a1.2 h.1;omega
    ·have:=a2.2 h.1;omega
    ·exact absurd (List.cons.inj h).1 e
   ·rw [if_neg h2]
    refine ⟨?_,?_,⟨fun h=>absurd h (Zzx _ _),fun h=>absurd (List.cons.inj h).1 e⟩⟩
    ·rw [Ykw hx hy,← a1]
     constructor
     ·rintro ⟨h3,h4⟩
      refine ⟨?_,h4⟩
      rcases Zkl g t u with h5 | h5 | h5 | h5<;>omega
     ·rintro ⟨h3,h4⟩;exact ⟨by omega,h4⟩
    ·rw [Yl9 hx hy,← a2]
     constructor
     ·rintro ⟨h3,h4⟩
      refine ⟨?_,h4⟩
      rcases Zkl g t u with h5 | h5 | h5 | h5<;>omega
     ·rintro ⟨h3,h4⟩;exact ⟨by omega,h4⟩
def grR (g:List Sy) (t u:Tm):Bool:=if t.wgt g≠u.wgt g then decide (u.wgt g<t.wgt g) else if t.head<0∨u.head<0 then false else if t.head≠u.head then decide (u.head<t.head) else Tm.grL g t.args u.args
theorem Ygm (g:List Sy) (t u:Tm):t.gr g u=(oftenD t u&&grR g t u):=by
 rw [Ye4];unfold grR
 cases oftenD t u<;>simp
theorem Zmj (g:List Sy):∀ l:List Tm,Tm.grL g l l=false
 | []=>rfl
 | a :: l=>by rw [Tm.grL,if_pos rfl];exact Zmj g l
theorem Zg3 (g:List Sy):∀ (n:Nat) (t u:Tm),t.size≤n→rtT g t→rtT g u→agree g t u
 | 0,t,_,h,_,_=>by have:=Zcs t;omega
 | n+1,t,u,hn,ht,hu=>by
  have gt:=(Zbt (Zbq ht.1).1).2.2
  have gu:=(Zbt (Zbq hu.1).1).2.2
  have hW:=(Zmc g gt gu).1
  unfold agree
  rw [Znb,Ygm g t u,Ygm g u t]
  by_cases e:t=u
  ·subst e
   rw [if_pos rfl]
   have key:grR g t t=false:=by
    unfold grR
    rw [if_neg (fun h=>h rfl),if_neg (fun h=>h rfl:¬ t.head≠t.head),Zmj]
    split<;>rfl
   rw [key,Bool.and_false]
   exact ⟨⟨fun h=>by omega,fun h=>by cases h⟩,⟨fun h=>by omega,fun h=>by cases h⟩,by simp⟩
  ·rw [if_neg e]
   by_cases c1:t.wgt g=u.wgt g
   ·rw [if_neg (by omega)]
    have r1:grR g t u=if t.head<0∨u.head<0 then false else if t.head≠u.head then decide (u.head<t.head) else Tm.grL g t.args u.args:=by unfold grR;rw [if_neg (fun h=>h c1)]
    have r2:grR g u t=if u.head<0∨t.head<0 then false else if u.head≠t.head then decide (t.head<u.head) else Tm.grL g u.args t.args:=by unfold grR;rw [if_neg (fun h=>h c1.symm)]
    by_cases c2:t.head<0∨u.head<0
    ·rw [if_pos c2] at r1 ⊢
     rw [if_pos c2.symm] at r2
     rw [r1,r2,Bool.and_false,Bool.and_false]
     exact ⟨⟨fun h=>by omega,fun h=>by cases h⟩,⟨fun h=>by omega,fun h=>by cases h⟩,⟨fun h=>by omega,fun h=>absurd h e⟩⟩
    ·rw [if_neg c2] at r1 ⊢
     rw [if_neg (fun h=>c2 h.symm)] at r2
     by_cases c3:t.head=u.head
     ·rw [if_neg (fun h=>h c3)] at r1 ⊢
      rw [if_neg (fun h=>h c3.symm)] at r2
      have hl:=Yql ht hu (by omega) c3
      have hA:=Zhp (g:=g) gt gu t.args u.args hl (fun a ha b hb=>Zg3 g n a b (by have:=Zbd ha;have:=Zau t;omega) (Zma t ht a ha) (Zma u hu b hb))
      rw [r1,r2,Bool.and_eq_true,Bool.and_eq_true]
      refine ⟨?_,?_,?_⟩
      ·rw [hA.1];exact And.comm
      ·rw [hA.2.1];exact And.comm
      ·rw [hA.2.2]
       exact ⟨fun h=>Ypd c3 h,fun h=>absurd h e⟩
     ·rw [if_pos c3] at r1 ⊢
      rw [if_pos (Ne.symm c3)] at r2
      rw [r1,r2,Bool.and_eq_true,Bool.and_eq_true,decide_eq_true_eq,decide_eq_true_eq]
      refine ⟨?_,?_,⟨fun h=>absurd h (Zzx _ _),fun h=>absurd h e⟩⟩
      ·rw [Ykw gt gu];exact ⟨fun h=>⟨h.2,by omega⟩,fun h=>⟨by omega,h.1⟩⟩
      ·rw [Yl9 gt gu];exact ⟨fun h=>⟨h.2,by omega⟩,fun h=>⟨by omega,h.1⟩⟩
   ·rw [if_pos (by omega)]
    have r1:grR g t u=decide (u.wgt g<t.wgt g):=by unfold grR;rw [if_pos c1]
    have r2:grR g u t=decide (t.wgt g<u.wgt g):=by unfold grR;rw [if_pos (Ne.symm c1)]
    rw [r1,r2,Bool.and_eq_true,Bool.and_eq_true,decide_eq_true_eq,decide_eq_true_eq]
    refine ⟨?_,?_,⟨fun h=>absurd h (Zzx _ _),fun h=>absurd h e⟩⟩
    ·rw [Ykw gt gu,hW];exact ⟨fun h=>⟨h.2,by omega⟩,fun h=>⟨by omega,h.1⟩⟩
    ·rw [Yl9 gt gu,hW];exact ⟨fun h=>⟨h.2,by omega⟩,fun h=>⟨by omega,h.1⟩⟩
theorem Ztr {g:List Sy} {t u:Tm} (ht:rtT g t) (hu:rtT g u):decide (standF g t u=1)=t.gr g u:=by
 have:=(Zg3 g _ t u (Nat.le_refl _) ht hu).1
 rw [Bool.eq_iff_iff,decide_eq_true_eq];exact this
section
variable {α:Type} (same : α→α→Bool)
def rmL (x : α):List α→Option (List α)
 | []=>none
 | y :: b=>if same x y=true then some b else (rmL x b).map (y :: ·)
def restR:List α→List α→List α
 | [],_=>[]
 | x :: a,b=>match rmL same x b with
  | none=>x :: restR a b
  | some b'=>restR a b'
def keepL:List α→List Bool→List α
 | y :: b,u :: us=>if u=true then keepL b us else y :: keepL b us
 | _,_=>[]
theorem Ybb (y : α) (b:List α) (us:List Bool):keepL (y :: b) (false :: us)=y :: keepL b us:=by rw [keepL];exact if_neg (by simp)
theorem Zou:∀ b:List α,keepL b (List.replicate b.length false)=b
 | []=>rfl
 | y :: b=>by rw [List.length_cons,List.replicate_succ,keepL,if_neg (by simp),Zou b]
def fkL (x : α):List α→List Bool→Nat→Option Nat
 | y :: b,u :: us,k=>if (!u&&same x y)=true then some k else fkL x b us (k+1)
 | _,_,_=>none
theorem Ygq {b0:List α} {us0:List Bool} (hl:us0.length=b0.length) (x : α):∀ (n k:Nat),b0.length - k=n→k≤b0.length→fk (woP same b0 us0 x) n k=fkL same x (b0.drop k) (us0.drop k) k
 | 0,k,h,hk=>by
  have:k=b0.length:=by omega
  subst this
  rw [fk,List.drop_length]
  cases us0.drop b0.length<;>rfl
 | n+1,k,h,hk=>by
  have h1:k<b0.length:=by omega
  have h2:k<us0.length:=by omega
  have hg:us0.getD k false=us0[k]:=by simp [List.getD,h2]
  rw [fk,Yqc h1,hg,List.drop_eq_getElem_cons h1,List.drop_eq_getElem_cons h2,fkL,Ygq hl x n (k+1) (by omega) (by omega)]
theorem Ygn (x : α):∀ (b:List α) (us:List Bool) (k:Nat),us.length=b.length→(fkL same x b us k=none→rmL same x (keepL b us)=none)∧∀ j,fkL same x b us k=some j→k≤j∧rmL same x (keepL b us)=some (keepL b (us.set (j - k) true))
 | [],us,k,_=>by
  cases us<;>exact ⟨fun _=>rfl,fun j h=>by cases h⟩
 | y :: b,[],k,h=>by simp at h
 | y :: b,u :: us,k,h=>by
  obtain ⟨i1,i2⟩:=Ygn x b us (k+1) (by simpa using h)
  rw [fkL]
  cases u with
  | true =>
   simp only [Bool.not_true,Bool.false_and,Bool.false_eq_true,if_false]
   rw [keepL,if_pos rfl]
   refine ⟨i1,fun j hj=>?_⟩
   obtain ⟨j1,j2⟩:=i2 j hj
   refine ⟨by omega,?_⟩
   rw [j2,show j - k=(j - (k+1))+1 by omega,List.set_cons_succ,keepL,if_pos rfl]
  | false =>
   simp only [Bool.not_false,Bool.true_and]
   rw [Ybb,rmL]
   cases hs:same x y with
   | true =>
    simp only [if_true]
    refine ⟨fun h=>(by cases h),fun j hj=>?_⟩
    cases hj
    refine ⟨Nat.le_refl _,?_⟩
    rw [Nat.sub_self,List.set_cons_zero,keepL,if_pos rfl]
   | false =>
    simp only [Bool.false_eq_true,if_false]
    refine ⟨fun h=>by rw [i1 h];rfl,fun j hj=>?_⟩
    obtain ⟨j1,j2⟩:=i2 j hj
    refine ⟨by omega,?_⟩
    rw [j2,show j - k=(j - (k+1))+1 by omega,List.set_cons_succ,Ybb];rfl
theorem Zrs (b0:List α):∀ (a:List α) (us:List Bool),us.length=b0.length→woL same b0 a us=restR same a (keepL b0 us)
 | [],_,_=>by rw [woL,restR]
 | x :: a,us,hl=>by
  rw [woL,restR]
  have e1:=Ygq same hl x b0.length 0 (by omega) (Nat.zero_le _)
  rw [List.drop_zero,List.drop_zero] at e1
  obtain ⟨h1,h2⟩:=Ygn same x b0 us 0 hl
  rw [e1]
  cases hf:fkL same x b0 us 0 with
  | none=>rw [h1 hf];simp only;rw [Zrs b0 a us hl]
  | some k =>
   rw [(h2 k hf).2]
   simp only [Nat.sub_zero]
   rw [Zrs b0 a (us.set k true) (by rw [List.length_set];exact hl)]
theorem Zf8 (a b:List α):woL same b a (List.replicate b.length false)=restR same a b:=by
 rw [Zrs same b a _ (by simp),Zou]
theorem Yb8 (x : α):∀ (b:List α) (n:Int),0≤n→(idxF (fun y=>same x y) b n<0→rmL same x b=none)∧(¬ idxF (fun y=>same x y) b n<0→n≤idxF (fun y=>same x y) b n∧rmL same x b=some (b.take (idxF (fun y=>same x y) b n - n).toNat++b.drop ((idxF (fun y=>same x y) b n - n).toNat+1)))
 | [],n,_=>by rw [idxF];exact ⟨fun _=>rfl,fun h=>by omega⟩
 | y :: b,n,hn=>by
  obtain ⟨i1,i2⟩:=Yb8 x b (n+1) (by omega)
  rw [idxF,rmL]
  cases hs:same x y with
  | true =>
   simp only [if_true]
   refine ⟨fun h=>by omega,fun _=>⟨Int.le_refl _,?_⟩⟩
   rw [Int.sub_self];rfl
  | false =>
   simp only [Bool.false_eq_true,if_false]
   refine ⟨fun h=>by rw [i1 h];rfl,fun h=>?_⟩
   obtain ⟨j1,j2⟩:=i2 h
   refine ⟨by omega,?_⟩
   rw [j2,show (idxF (fun y=>same x y) b (n+1) - n).toNat=(idxF (fun y=>same x y) b (n+1) - (n+1)).toNat+1 by omega,List.take_succ_cons,List.drop_succ_cons];rfl
end
theorem Zic:∀ a b:List Li,restC a b=restR sameL a b
 | [],_=>by rw [restC,restR]
 | x :: a,b=>by
  rw [restC,restR]
  obtain ⟨h1,h2⟩:=Yb8 sameL x b 0 (Int.le_refl _)
  split
  ·rename_i h;rw [h1 h];simp only;rw [Zic a b]
  ·rename_i h;rw [(h2 h).2,Int.sub_zero];simp only;rw [Zic a];rfl
theorem Zij:∀ a b:List Tm,restF a b=restR eqT a b
 | [],_=>by rw [restF,restR]
 | x :: a,b=>by
  rw [restF,restR]
  obtain ⟨h1,h2⟩:=Yb8 eqT x b 0 (Int.le_refl _)
  have he:(fun y=>decide (x=y))=fun y=>eqT x y:=rfl
  rw [he]
  split
  ·rename_i h;rw [h1 h];simp only;rw [Zij a b]
  ·rename_i h;rw [(h2 h).2,Int.sub_zero];simp only;rw [Zij a];rfl
theorem Ze7 {α:Type} (same : α→α→Bool):∀ (a b:List α), ∀ x∈restR same a b,x∈a
 | [],_,x,h=>by rw [restR] at h;cases h
 | y :: a,b,x,h=>by
  rw [restR] at h
  split at h
  ·rcases List.mem_cons.1 h with rfl | h
   ·simp
   ·exact List.mem_cons_of_mem _ (Ze7 same a b x h)
  ·exact List.mem_cons_of_mem _ (Ze7 same a _ x h)
theorem Zpa {α:Type} {f h : α→α→Bool} {a b:List α} (he:∀ x∈a, ∀ y∈b,f x y=h x y):ovD f a b=ovD h a b:=by
 have:∀ (b:List α),(∀ x∈a, ∀ y∈b,f x y=h x y)→(b.all fun y=>a.any fun x=>f x y)=b.all fun y=>a.any fun x=>h x y:=by
  intro b
  induction b with
  | nil=>intro _;rfl
  | cons y b ih =>
   intro hb
   rw [List.all_cons,List.all_cons,ih fun x hx z hz=>hb x hx z (by simp [hz])]
   congr 1
   have:∀ l:List α,(∀ x∈l,f x y=h x y)→(l.any fun x=>f x y)=l.any fun x=>h x y:=by
    intro l
    induction l with
    | nil=>intro _;rfl
    | cons z l ihl=>intro hz;rw [List.any_cons,List.any_cons,hz z (by simp),ihl fun x hx=>hz x (by simp [hx])]
   exact this a fun x hx=>hb x hx y (by simp)
 unfold ovD;rw [this b he]
theorem Zjj {α:Type} (p : α→Bool):∀ b:List α,(!b.any fun y=>!p y)=b.all p
 | []=>rfl
 | y :: b=>by
  rw [List.any_cons,List.all_cons,← Zjj p b]
  cases p y<;>simp
theorem Zss {g:List Sy} {a b:List Tm} (ha:∀ x∈a,rtT g x) (hb:∀ x∈b,rtT g x):overF g a b=ovD (Tm.gr g) a b:=by
 have h1:overF g a b=ovD (fun x y=>decide (standF g x y=1)) a b:=by
  unfold overF ovD
  rw [Zjj (fun y=>beats g a y),Bool.and_comm];rfl
 rw [h1]
 exact Zpa fun x hx y hy=>Ztr (ha x hx) (hb y hy)
theorem Ybw {g:List Sy} {a b:List Tm} (ha:∀ x∈a,rtT g x) (hb:∀ x∈b,rtT g x):multiF g a b=msC eqT (Tm.gr g) a b:=by
 unfold multiF msC
 have m1:∀ x∈restR eqT a b,rtT g x:=fun x hx=>ha x (Ze7 eqT a b x hx)
 have m2:∀ x∈restR eqT b a,rtT g x:=fun x hx=>hb x (Ze7 eqT b a x hx)
 rw [Zij,Zij,Zf8,Zf8,Zss m1 m2,Zss m2 m1]
theorem Ypn {g:List Sy} {a b:Li} (ha:a.check g=0) (hb:b.check g=0) (ra:rtL g a) (rb:rtL g b):gtL g a b=decide (st9 g a b=1):=by
 unfold gtL cmpL st9
 rw [if_neg (fun h=>h ha),if_neg (fun h=>h hb),Ybw (Zzw ra) (Zzw rb)]
 simp
theorem Ztp (g:List Sy) (a:List Li):∀ b:List Li,overC g a b=ovD (gtL g) a b
 | []=>by rw [overC];simp [ovD]
 | y :: b=>by
  rw [overC,Ydy,Ztp g a b]
  cases a.any fun x=>gtL g x y<;>simp
theorem Zsy {g:List Sy} {a b:List Li} (ha:∀ x∈a,x.check g=0∧rtL g x) (hb:∀ x∈b,x.check g=0∧rtL g x):overC g a b=ovD (fun x y=>decide (st9 g x y=1)) a b:=by
 rw [Ztp]
 exact Zpa fun x hx y hy=>Ypn (ha x hx).1 (hb y hy).1 (ha x hx).2 (hb y hy).2
theorem Zxu {g:List Sy} {c:List Li} (h:rtC g c):∀ x∈c,x.check g=0∧rtL g x:=fun x hx=>⟨(Zcj h.1).2.2 x hx,Zcy h hx⟩
theorem Yk9 {g:List Sy} {a b:List Li} (ha:rtC g a) (hb:rtC g b):cmpC g a b=(st10 g a b,0):=by
 unfold cmpC st10 msC
 have m1:∀ x∈restR sameL a b,x.check g=0∧rtL g x:=fun x hx=>Zxu ha x (Ze7 sameL a b x hx)
 have m2:∀ x∈restR sameL b a,x.check g=0∧rtL g x:=fun x hx=>Zxu hb x (Ze7 sameL b a x hx)
 rw [if_neg (fun h=>h ha.1),if_neg (fun h=>h hb.1),Zic,Zic,Zf8,Zf8,Zsy m1 m2,Zsy m2 m1]
 split
 ·rfl
 split
 ·rfl
 split
 ·rfl
 ·rfl
section
variable {α:Type}
def cntR (same : α→α→Bool) (x : α):List α→Nat
 | []=>0
 | y :: l=>(if same x y=true then 1 else 0)+cntR same x l
structure EqvB (same : α→α→Bool):Prop where
 refl:∀ x,same x x=true
 symm:∀ x y,same x y=true→same y x=true
 trans:∀ x y z,same x y=true→same y z=true→same x z=true
variable {same : α→α→Bool}
theorem EqvB.congr (h:EqvB same) {x y : α} (hs:same x y=true) (z : α):same z x=same z y:=by
 rw [Bool.eq_iff_iff]
 exact ⟨fun h1=>h.trans _ _ _ h1 hs,fun h1=>h.trans _ _ _ h1 (h.symm _ _ hs)⟩
theorem EqvB.congr2 (h:EqvB same) {x y : α} (hs:same x y=true) (z : α):same x z=same y z:=by
 rw [Bool.eq_iff_iff]
 exact ⟨fun h1=>h.trans _ _ _ (h.symm _ _ hs) h1,fun h1=>h.trans _ _ _ hs h1⟩
theorem Zkt (h:EqvB same) {x y : α} (hs:same x y=true):∀ l,cntR same x l=cntR same y l
 | []=>rfl
 | z :: l=>by rw [cntR,cntR,Zkt h hs l,h.congr2 hs]
theorem Zgk (h:EqvB same) {x : α}:∀ {l:List α},x∈l→0<cntR same x l
 | y :: l,hm=>by
  rw [cntR]
  rcases List.mem_cons.1 hm with rfl | hm
  ·rw [if_pos (h.refl _)];omega
  ·have:=Zgk h hm;omega
theorem Zim {x : α}:∀ {l:List α},0<cntR same x l→∃ y∈l,same x y=true
 | y :: l,hp=>by
  rw [cntR] at hp
  by_cases hs:same x y=true
  ·exact ⟨y,by simp,hs⟩
  ·rw [if_neg hs] at hp
   obtain ⟨z,h1,h2⟩:=Zim (x:=x) (l:=l) (by omega)
   exact ⟨z,by simp [h1],h2⟩
theorem Yah (h:EqvB same) (x : α):∀ b:List α,(rmL same x b=none→cntR same x b=0)∧∀ b',rmL same x b=some b'→∀ z,cntR same z b=cntR same z b'+if same z x=true then 1 else 0
 | []=>⟨fun _=>rfl,fun b' h=>by rw [rmL] at h;cases h⟩
 | y :: b=>by
  obtain ⟨i1,i2⟩:=Yah h x b
  rw [rmL]
  by_cases hs:same x y=true
  ·rw [if_pos hs]
   refine ⟨fun h=>(by cases h),fun b' e z=>?_⟩
   cases e
   rw [cntR,h.congr hs z];omega
  ·rw [if_neg hs]
   constructor
   ·intro e
    rw [cntR,if_neg hs,i1 (by simpa using e)]
   ·intro b' e z
    cases hr:rmL same x b with
    | none=>rw [hr] at e;cases e
    | some b1 =>
     rw [hr] at e
     cases e
     rw [cntR,cntR,i2 b1 hr z];omega
theorem Zdk (h:EqvB same):∀ (a b:List α) (z : α),cntR same z (restR same a b)=cntR same z a - cntR same z b
 | [],b,z=>by rw [restR,cntR];omega
 | x :: a,b,z=>by
  obtain ⟨i1,i2⟩:=Yah h x b
  rw [restR]
  cases hr:rmL same x b with
  | none =>
   simp only
   rw [cntR,cntR,Zdk h a b z]
   by_cases hs:same z x=true
   ·have:=Zkt h hs b
    rw [i1 hr] at this
    rw [if_pos hs];omega
   ·rw [if_neg hs];omega
  | some b' =>
   simp only
   rw [Zdk h a b' z,i2 b' hr z,cntR];omega
variable {gt : α→α→Bool}
def Resp (same gt : α→α→Bool):Prop:=∀ x x' y y',same x x'=true→same y y'=true→gt x y=gt x' y'
theorem Zh2 (h:EqvB same) (hg:Resp same gt) (a b:List α):ovD gt a b=true↔(∀ y,0<cntR same y b→∃ x,0<cntR same x a∧gt x y=true)∧∃ x,0<cntR same x a:=by
 unfold ovD
 rw [Bool.and_eq_true,List.all_eq_true,decide_eq_true_eq]
 constructor
 ·rintro ⟨h1,h2⟩
  refine ⟨fun y hy=>?_,?_⟩
  ·obtain ⟨y',m,s⟩:=Zim hy
   obtain ⟨x,m2,hx⟩:=List.any_eq_true.1 (h1 y' m)
   exact ⟨x,Zgk h m2,by rw [hg x x y y' (h.refl _) s];exact hx⟩
  ·obtain ⟨x,l,rfl⟩:=List.exists_cons_of_length_pos h2
   exact ⟨x,Zgk h (by simp)⟩
 ·rintro ⟨h1,x0,h2⟩
  refine ⟨fun y hy=>?_,?_⟩
  ·obtain ⟨x,c,hx⟩:=h1 y (Zgk h hy)
   obtain ⟨x',m,s⟩:=Zim c
   exact List.any_eq_true.2 ⟨x',m,by rw [← hg x x' y y s (h.refl _)];exact hx⟩
  ·obtain ⟨x',m,_⟩:=Zim h2
   exact List.length_pos_of_mem m
theorem Zr8 (h:EqvB same) (a b:List α):a.length+b.length=0↔∀ x,cntR same x a=0∧cntR same x b=0:=by
 constructor
 ·intro e x
  have e1:a=[]:=List.length_eq_zero_iff.1 (by omega)
  have e2:b=[]:=List.length_eq_zero_iff.1 (by omega)
  rw [e1,e2];exact ⟨rfl,rfl⟩
 ·intro e
  have key:∀ l:List α,(∀ x,cntR same x l=0)→l.length=0:=fun l hl=>by
   cases l with
   | nil=>rfl
   | cons x l=>have:=Zgk h (x:=x) (l:=x :: l) (by simp);have:=hl x;omega
  rw [key a fun x=>(e x).1,key b fun x=>(e x).2]
theorem Zxv (h:EqvB same) (hg:Resp same gt) {a a' b b':List α} (h1:∀ x,cntR same x a=cntR same x a') (h2:∀ x,cntR same x b=cntR same x b'):msC same gt a b=msC same gt a' b':=by
 have e1:∀ x,cntR same x (restR same a b)=cntR same x (restR same a' b'):=fun x=>by rw [Zdk h,Zdk h,h1,h2]
 have e2:∀ x,cntR same x (restR same b a)=cntR same x (restR same b' a'):=fun x=>by rw [Zdk h,Zdk h,h1,h2]
 have o1:ovD gt (restR same a b) (restR same b a)=ovD gt (restR same a' b') (restR same b' a'):=by
  rw [Bool.eq_iff_iff,Zh2 h hg,Zh2 h hg];simp only [e1,e2]
 have o2:ovD gt (restR same b a) (restR same a b)=ovD gt (restR same b' a') (restR same a' b'):=by
  rw [Bool.eq_iff_iff,Zh2 h hg,Zh2 h hg];simp only [e1,e2]
 have o3:(restR same a b).length+(restR same b a).length=0↔(restR same a' b').length+(restR same b' a').length=0:=by
  rw [Zr8 h,Zr8 h];simp only [e1,e2]
 unfold msC
 simp only [Zf8,o1,o2,o3]
theorem Zxb (h:EqvB same) (hg:Resp same gt) {a b:List α} {p q : α} {m:Nat} (hm : 0<m) (hc:∀ x,cntR same x a+(if same x p=true then m else 0)=cntR same x b+if same x q=true then m else 0)
  (hpq:same p q=false) (h1:gt p q=true) (h2:gt q p=false):msC same gt a b = -1∧msC same gt b a=1:=by
 have n1:∀ x, ¬ (same x p=true∧same x q=true):=fun x hx=>by
  have:=h.trans _ _ _ (h.symm _ _ hx.1) hx.2
  rw [hpq] at this;cases this
 have c1:∀ x,0<cntR same x (restR same a b)↔same x q=true:=fun x=>by
  have:=hc x
  rw [Zdk h]
  by_cases s2:same x q=true
  ·have s1:¬ same x p=true:=fun s1=>n1 x ⟨s1,s2⟩
   rw [if_neg s1,if_pos s2] at this
   exact ⟨fun _=>s2,fun _=>by omega⟩
  ·rw [if_neg s2] at this
   refine ⟨fun h=>?_,fun h=>absurd h s2⟩
   split at this<;>omega
 have c2:∀ x,0<cntR same x (restR same b a)↔same x p=true:=fun x=>by
  have:=hc x
  rw [Zdk h]
  by_cases s1:same x p=true
  ·have s2:¬ same x q=true:=fun s2=>n1 x ⟨s1,s2⟩
   rw [if_pos s1,if_neg s2] at this
   exact ⟨fun _=>s1,fun _=>by omega⟩
  ·rw [if_neg s1] at this
   refine ⟨fun h=>?_,fun h=>absurd h s1⟩
   split at this<;>omega
 have o1:ovD gt (restR same b a) (restR same a b)=true:=by
  rw [Zh2 h hg]
  refine ⟨fun y hy=>⟨p,(c2 p).2 (h.refl _),?_⟩,p,(c2 p).2 (h.refl _)⟩
  rw [hg p p y q (h.refl _) ((c1 y).1 hy)];exact h1
 have o2:¬ ovD gt (restR same a b) (restR same b a)=true:=by
  rw [Zh2 h hg]
  rintro ⟨k1,_⟩
  obtain ⟨x,k2,k3⟩:=k1 p ((c2 p).2 (h.refl _))
  rw [hg x q p p ((c1 x).1 k2) (h.refl _),h2] at k3;cases k3
 have o3:¬ (restR same a b).length+(restR same b a).length=0:=by
  rw [Zr8 h]
  intro k
  have:=(c1 q).2 (h.refl _)
  have:=(k q).1
  omega
 have o4:¬ (restR same b a).length+(restR same a b).length=0:=fun k=>o3 (by omega)
 unfold msC
 simp only [Zf8]
 rw [if_neg o3,if_neg o2,if_pos o1,if_neg o4,if_pos o1]
 exact ⟨rfl,rfl⟩
end
theorem Ybh:EqvB eqT:=⟨fun x=>by simp [eqT],fun x y h=>by simp [eqT] at h ⊢;exact h.symm,fun x y z h1 h2=>by simp [eqT] at h1 h2 ⊢;exact h1.trans h2⟩
theorem Zst (gt:Tm→Tm→Bool):Resp eqT gt:=fun x x' y y' h1 h2=>by
 simp [eqT] at h1 h2;rw [h1,h2]
theorem Zgi (a b:Li):sameL a b=true↔a.neg=b.neg∧((a.l=b.l∧a.r=b.r)∨(a.l=b.r∧a.r=b.l)):=by simp [sameL,equalL]
theorem Zo3:EqvB sameL:=by
 refine ⟨fun x=>?_,fun x y h=>?_,fun x y z h1 h2=>?_⟩
 ·rw [Zgi];exact ⟨rfl, .inl ⟨rfl,rfl⟩⟩
 ·rw [Zgi] at h ⊢
  rcases h with ⟨a,⟨b,c⟩ | ⟨b,c⟩⟩
  ·exact ⟨a.symm, .inl ⟨b.symm,c.symm⟩⟩
  ·exact ⟨a.symm, .inr ⟨c.symm,b.symm⟩⟩
 ·rw [Zgi] at h1 h2 ⊢
  rcases h1 with ⟨a,⟨b,c⟩ | ⟨b,c⟩⟩<;>rcases h2 with ⟨a',⟨b',c'⟩ | ⟨b',c'⟩⟩
  ·exact ⟨a.trans a', .inl ⟨b.trans b',c.trans c'⟩⟩
  ·exact ⟨a.trans a', .inr ⟨b.trans b',c.trans c'⟩⟩
  ·exact ⟨a.trans a', .inr ⟨b.trans c',c.trans b'⟩⟩
  ·exact ⟨a.trans a', .inl ⟨b.trans c',c.trans b'⟩⟩
theorem Zy2 {a b:Li} (h:sameL a b=true) (x:Tm):cntR eqT x (rowL a)=cntR eqT x (rowL b):=by
 rw [Zgi] at h
 obtain ⟨e,⟨h1,h2⟩ | ⟨h1,h2⟩⟩:=h
 ·unfold rowL;rw [e,h1,h2]
 ·unfold rowL
  rw [e,h1,h2]
  split<;>simp only [cntR]<;>omega
theorem Znz {g:List Sy} {a a' b b':Li} (h1:sameL a a'=true) (h2:sameL b b'=true):st9 g a b=st9 g a' b' :=
 Zxv Ybh (Zst _) (Zy2 h1) (Zy2 h2)
theorem Yc7 (g:List Sy):Resp sameL fun x y=>decide (st9 g x y=1):=fun x x' y y' h1 h2=>by simp only [Znz (g:=g) h1 h2]
theorem Zmm {g:List Sy} {es:List (List Li)} {c:List Li} (hw:wrongL g (c :: es)=0):stepX g es c=stepP g (unitsOf es) c:=by
 unfold stepX;exact if_neg (fun h=>h hw)
end Go.Proofs
namespace Go.Proofs
open Go Go.Abs
attribute [local go_sem] Nat.reduceAdd Nat.reduceSub Nat.reduceMul Nat.reduceLeDiff Nat.reduceEqDiff Nat.reduceBEq Nat.reduceLT Nat.le_refl Int.natCast_zero Nat.sub_zero List.length_map Int.toNat_natCast Int.natCast_one Int.reduceEq Int.reduceLT Int.reduceLE Int.reduceNe Int.sub_zero Int.zero_add Int.toNat_one
theorem Zid {g:List Sy} {es:List (List Li)} {c:List Li} (h:inX es c) (h0:(stepX g es c).2.2.2=0):wrongL g (c :: es)=0∧rtC g (stepX g es c).1:=by
 unfold stepX at h0 ⊢
 by_cases hw:wrongL g (c :: es)=0
 ·rw [if_neg (by simp [hw])] at h0 ⊢
  exact ⟨hw,Zi8 (Zfn h hw).2.1 (Zfn h hw).1 h0⟩
 ·rw [if_pos hw] at h0
  exact absurd h0 hw
theorem Zh6 {g:List Sy} {c:List Li} (h:rtC g c):sizC c∧c.length≤32:=by
 refine ⟨fun l hl=>?_,(Zcj h.1).2.1⟩
 obtain ⟨a1,a2⟩:=Zcy h hl
 have b1:=(Zc2 a1).2
 have b2:=(Zc2 a2).2
 omega
theorem Yap {g:List Sy} {es:List (List Li)} {c:List Li} (h:(stepX g es c).2.2.2≠0):(stepX g es c).1=[]∧(stepX g es c).2.2.1=false:=by
 unfold stepX at h ⊢
 split
 ·exact ⟨rfl,rfl⟩
 ·rename_i hw
  rw [if_neg hw] at h
  unfold stepP stepF at h ⊢
  split
  ·rename_i h1;rw [h1] at h;exact absurd rfl h
  ·rename_i h1
   rw [h1] at h
   simp only at h ⊢
   split
   ·rename_i h2;rw [if_pos h2] at h;exact absurd rfl h
   ·exact ⟨rfl,rfl⟩
end Go.Proofs
namespace Go.Proofs
open Go Go.Abs
theorem Zs9 (g:List Sy) (u:Tm):∀ (ts:List Tm) (i:Nat) (h:i<ts.length) (n:Int),Tm.wgts g (ts.set i u) n+(ts[i]).wgt g=Tm.wgts g ts n+u.wgt g
 | t :: ts,0,_,n=>by simp only [List.set_cons_zero,Tm.wgts,List.getElem_cons_zero];rw [Zgf,Zgf];omega
 | t :: ts,i+1,h,n=>by simp only [List.set_cons_succ,Tm.wgts,List.getElem_cons_succ];exact Zs9 g u ts i (by simpa using h) _
theorem Zxi (v:Int) (u:Tm):∀ (ts:List Tm) (i:Nat) (h:i<ts.length),Tm.cvs v (ts.set i u)+(ts[i]).cv v=Tm.cvs v ts+u.cv v
 | t :: ts,0,_=>by simp only [List.set_cons_zero,Tm.cvs,List.getElem_cons_zero];omega
 | t :: ts,i+1,h=>by simp only [List.set_cons_succ,Tm.cvs,List.getElem_cons_succ];have:=Zxi v u ts i (by simpa using h);omega
theorem Zt6 {t:Tm} (h:t.good=true) (ha:t.args≠[]) : 0≤t.head:=by
 cases t with
 | mk hd ts =>
  simp only [Tm.good,Tm.args,Tm.head] at *
  cases ts with
  | nil=>exact absurd rfl ha
  | cons a ts=>simp at h;omega
theorem Ys4 (v:Int) (t:Tm):t.cv v=(if t.head = -1 - v then 1 else 0)+Tm.cvs v t.args:=by cases t;rfl
theorem Ymj (g:List Sy) (t:Tm):t.wgt g=if t.head<0 then 1 else Tm.wgts g t.args (wtOf g t.head):=by cases t;rfl
theorem Zwn (v:Int):∀ (p:List Int) (t u w:Tm),t.atP p=some w→(t.putP p u).cv v+w.cv v=t.cv v+u.cv v
 | [],t,u,w,h=>by rw [Tm.atP] at h;cases h;rw [Tm.putP];omega
 | n :: p,t,u,w,h=>by
  rw [Tm.atP] at h
  split at h
  ·cases h
  split at h
  ·rename_i h1 h2
   have hg:t.args.getD n.toNat zeroT=t.args[n.toNat]:=by simp [List.getD,h2]
   have ih:=Zwn v p _ u w h
   rw [Tm.putP,hg]
   have h3:=Zxi v ((t.args[n.toNat]).putP p u) t.args n.toNat h2
   have e:(Tm.mk t.head (t.args.set n.toNat ((t.args[n.toNat]).putP p u))).cv v=(if t.head = -1 - v then 1 else 0)+Tm.cvs v (t.args.set n.toNat ((t.args[n.toNat]).putP p u)):=rfl
   rw [e,Ys4 v t];omega
  ·cases h
theorem Zrw (g:List Sy):∀ (p:List Int) (t u w:Tm),t.good=true→t.atP p=some w→(t.putP p u).wgt g+w.wgt g=t.wgt g+u.wgt g
 | [],t,u,w,_,h=>by rw [Tm.atP] at h;cases h;rw [Tm.putP];omega
 | n :: p,t,u,w,hgd,h=>by
  rw [Tm.atP] at h
  split at h
  ·cases h
  split at h
  ·rename_i h1 h2
   have hg:t.args.getD n.toNat zeroT=t.args[n.toNat]:=by simp [List.getD,h2]
   have ih:=Zrw g p _ u w (Zhg hgd _ (List.getElem_mem h2)) h
   rw [Tm.putP,hg]
   have hp:=Zt6 hgd (by intro e;rw [e] at h2;simp at h2)
   have h3:=Zs9 g ((t.args[n.toNat]).putP p u) t.args n.toNat h2 (wtOf g t.head)
   have e:(Tm.mk t.head (t.args.set n.toNat ((t.args[n.toNat]).putP p u))).wgt g=if t.head<0 then 1 else Tm.wgts g (t.args.set n.toNat ((t.args[n.toNat]).putP p u)) (wtOf g t.head):=rfl
   rw [e,Ymj g t,if_neg (by omega),if_neg (by omega)];omega
  ·cases h
theorem Zyb {g:List Sy} {u:Tm}:∀ (ts:List Tm) (i:Nat) (h:i<ts.length),(ts[i])≠u→(ts[i]).gr g u=true→Tm.grL g ts (ts.set i u)=true
 | t :: ts,0,_,h1,h2=>by rw [List.set_cons_zero,Tm.grL];simp only [List.getElem_cons_zero] at h1 h2;rw [if_neg h1];exact h2
 | t :: ts,i+1,h,h1,h2=>by rw [List.set_cons_succ,Tm.grL,if_pos rfl];exact Zyb ts i (by simpa using h) (by simpa using h1) (by simpa using h2)
theorem Ygo (g:List Sy) (t:Tm):t.gr g t=false:=by
 rw [Ye4,if_neg (fun h=>h rfl:¬ t.wgt g≠t.wgt g),if_neg (fun h=>h rfl:¬ t.head≠t.head),Zmj]
 repeat' split
 all_goals rfl
theorem Ygz {g:List Sy}:∀ (p:List Int) (t u w:Tm),t.good=true→t.atP p=some w→w.gr g u=true→t.gr g (t.putP p u)=true
 | [],t,u,w,_,h,hw=>by rw [Tm.atP] at h;cases h;rw [Tm.putP];exact hw
 | n :: p,t,u,w,hgd,h,hw=>by
  have hcv:=fun v=>Zwn v (n :: p) t u w h
  have hwt:=Zrw g (n :: p) t u w hgd h
  rw [Ye4] at hw ⊢
  by_cases c0:oftenD w u=false
  ·rw [if_pos c0] at hw;cases hw
  have ho:oftenD t (t.putP (n :: p) u)=true:=by
   rw [Zg6]
   intro v hv
   have h1:=(Zg6 w u).1 (by simpa using c0) v hv
   have h2:=hcv v
   omega
  rw [if_neg (by rw [ho];simp)]
  rw [if_neg c0] at hw
  by_cases c1:w.wgt g=u.wgt g
  ·rw [if_neg (by omega)]
   rw [Tm.atP] at h
   split at h
   ·cases h
   split at h
   ·rename_i h1 h2
    have hg:t.args.getD n.toNat zeroT=t.args[n.toNat]:=by simp [List.getD,h2]
    have hp:=Zt6 hgd (by intro e;rw [e] at h2;simp at h2)
    have hw':w.gr g u=true:=by rw [Ye4,if_neg c0];exact hw
    have ih:=Ygz p (t.args[n.toNat]) u w (Zhg hgd _ (List.getElem_mem h2)) h hw'
    rw [Tm.putP,hg]
    rw [show ∀ L:List Tm,(Tm.mk t.head L).head=t.head from fun _=>rfl,show ∀ L:List Tm,(Tm.mk t.head L).args=L from fun _=>rfl]
    rw [if_neg (by omega),if_neg (fun h=>h rfl)]
    refine Zyb _ _ h2 (fun e=>?_) ih
    rw [← e,Ygo] at ih;cases ih
   ·cases h
  ·rw [if_pos c1] at hw
   rw [if_pos (by omega)]
   simp only [decide_eq_true_eq] at hw ⊢
   omega
theorem Yke {g:List Sy} {t u:Tm} (ht:rtT g t) (hu:rtT g u) (h:t.gr g u=true):u.gr g t=false:=by
 obtain ⟨a1,a2,_⟩:=Zg3 g _ t u (Nat.le_refl _) ht hu
 cases hb:u.gr g t with
 | false=>rfl
 | true =>
  have:=a1.2 h
  have:=a2.2 hb
  omega
theorem Yiw {g:List Sy} {l:Li} {rt:Bool} {x:Tm} (hl:rtL g l) (hx:rtT g x) (h:(l.side rt).gr g x=true):st9 g (l.putS rt x) l = -1∧st9 g l (l.putS rt x)=1:=by
 have hs:rtT g (l.side rt):=by unfold Li.side;cases rt;exact hl.1;exact hl.2
 have hne:eqT (l.side rt) x=false:=by
  simp only [eqT,decide_eq_false_iff_not]
  intro e
  rw [e,Ygo] at h;cases h
 refine Zxb (m:=if l.neg then 2 else 1) Ybh (Zst _) (by split<;>omega) (fun y=>?_) hne h (Yke hs hx h)
 unfold rowL Li.side Li.putS
 cases rt<;>cases l.neg<;>simp only [if_true,if_false,Bool.false_eq_true,cntR]<;>repeat' split
 all_goals omega
theorem Zyc {x y:Li} {l:Li}:∀ (c:List Li) (j:Nat) (h:j<c.length),cntR sameL x (c.set j l)+(if sameL x c[j]=true then 1 else 0)=cntR sameL x c+if sameL x l=true then 1 else 0
 | a :: c,0,_=>by simp only [List.set_cons_zero,List.getElem_cons_zero,cntR];omega
 | a :: c,j+1,h=>by simp only [List.set_cons_succ,List.getElem_cons_succ,cntR];have:=Zyc (x:=x) (y:=y) (l:=l) c j (by simpa using h);omega
theorem Ydq {g:List Sy} {c:List Li} {j:Nat} {l:Li} (hj:j<c.length) (h1:st9 g l c[j] = -1) (h2:st9 g c[j] l=1):st10 g (c.set j l) c = -1:=by
 have hne:sameL c[j] l=false:=by
  cases hs:sameL c[j] l with
  | false=>rfl
  | true =>
   rw [Znz (Zo3.symm _ _ hs) hs] at h1
   omega
 exact (Zxb (m:=1) Zo3 (Yc7 g) (by omega) (fun x=>Zyc (y:=x) c j hj) hne (by simp [h2]) (by simp [h1])).1
theorem Zu7 {g:List Sy} {c:List Li} {u:Un} {t:Tm} (hr:rtT g u.r) (ht:rtT g t) (h:(turnT g c u t).2=true):rtT g (turnT g c u t).1∧t.gr g (turnT g c u t).1=true:=by
 have hs:=Zle (c:=c) (u:=u) hr (Zc2 ht)
 unfold turnT turnF at h hs ⊢
 split at h
 ·cases h
 split at h
 ·cases h
 split at h
 ·cases h
 split at h
 ·cases h
 rename_i c1 c2 c3 c4
 rw [if_neg c1,if_neg c2,if_neg c3,if_neg c4] at hs ⊢
 simp only at hs ⊢
 have k1:(kT g u t).2=0:=by
  by_cases h:(kT g u t).2=0
  ·exact h
  ·exact absurd (.inl h) c4
 have k2:(kT g u t).1=1:=by
  by_cases h:(kT g u t).1=1
  ·exact h
  ·exact absurd (.inr h) c4
 have k3:firstW g [t,(aT u t).1]=0:=k1
 have k4:standF g t (aT u t).1=1:=by
  unfold kT at k2
  simp only [k3,if_true] at k2
  exact k2
 have k5:(aT u t).1.term g=0:=by
  rw [firstW,if_pos ht.1,firstW] at k3
  split at k3
  ·assumption
  ·exact k3
 have hrt:rtT g (aT u t).1:=⟨k5,hs.1⟩
 refine ⟨hrt,?_⟩
 rw [← Ztr ht hrt,k4];rfl
theorem Zvi {g:List Sy} {us:List Un} {c:List Li} (hu:∀ u∈us,rtT g u.l∧rtT g u.r) (hc:rtC g c) (h0:(stepP g us c).2.2.2=0) (h1:(stepP g us c).2.2.1=true):st10 g (stepP g us c).1 c = -1:=by
 have hrt:=Zi8 hu hc h0
 unfold stepP stepF at h0 h1 hrt ⊢
 rcases Zdg (TT g c) us (spotsF c 0) with ⟨f1,_⟩ | ⟨k,hk,x,f1,f2,_⟩
 ·rw [f1] at h1;cases h1
 ·rw [f1] at h0 h1 hrt ⊢
  simp only at h0 h1 hrt ⊢
  split at h1
  ·rename_i hcc
   rw [if_pos hcc] at hrt ⊢
   simp only at hrt ⊢
   obtain ⟨m1,m2,m3⟩:=Zhf f2
   have hs:=List.getElem_mem hk
   obtain ⟨j,hj,g1,g2,g3⟩:=Zch c 0 _ hs
   rw [Nat.zero_add] at g1
   have hlj:=Zcy hc (List.getElem_mem hj)
   have hsd:=Zej hc (List.getElem_mem hj) ((spotsF c 0)[k]).rt
   have hst:rtT g ((spotsF c 0)[k]).t:=Yg5 hc _ hs
   obtain ⟨t1,t2⟩:=Zu7 (hu _ m1).2 hst m3
   have e:(TT g c x.1 (spotsF c 0)[k]).1=(turnT g c x.1 (spotsF c 0)[k].t).1:=rfl
   rw [m2,e] at hrt ⊢
   have hgood:=(Zbt (Zbq hsd.1).1).2.2
   have hgr:=Ygz _ _ _ _ hgood g2 t2
   rw [Zxx hj g1] at hrt ⊢
   have hr2:=Zej hrt (l:=c[j].putS ((spotsF c 0)[k]).rt ((c[j].side ((spotsF c 0)[k]).rt).putP ((spotsF c 0)[k]).p (turnT g c x.1 ((spotsF c 0)[k]).t).1)) (List.mem_set hj _) ((spotsF c 0)[k]).rt
   have hr3:∀ (l:Li) (b:Bool) (y:Tm),(l.putS b y).side b=y:=fun l b y=>by cases b<;>rfl
   rw [hr3] at hr2
   obtain ⟨q1,q2⟩:=Yiw hlj hr2 hgr
   exact Ydq hj q1 q2
  ·cases h1
theorem Zsw {P:List Li→Prop} {S:List Li→List Li×Int×Bool×Int} (hP:∀ c,P c→(S c).2.2.2=0→(S c).2.2.1=true→P (S c).1):∀ (n:Nat) (c:List Li) (u:List Int),P c→(normF S n c u).2.2=0 →
  P (normF S n c u).1∧(S (normF S n c u).1).2.2.2=0∧(S (normF S n c u).1).2.2.1=false∧u.length≤(normF S n c u).2.1.length∧((S c).2.2.1=true→u.length<(normF S n c u).2.1.length)∧((S c).2.2.1=false→(normF S n c u).2.1=u)
 | 0,c,u,h,h0=>by rw [normF] at h0;cases h0
 | n+1,c,u,h,h0=>by
  rw [normF] at h0 ⊢
  by_cases h1:(S c).2.2.2=0
  ·rw [if_neg (fun k=>k h1)] at h0 ⊢
   by_cases h2:(S c).2.2.1=false
   ·rw [if_pos h2] at h0 ⊢
    exact ⟨h,h1,h2,Nat.le_refl _,fun k=>(by rw [h2] at k;cases k),fun _=>rfl⟩
   ·rw [if_neg h2] at h0 ⊢
    have h2':(S c).2.2.1=true:=by simpa using h2
    by_cases h3 : 200<u.length+1
    ·rw [if_pos h3] at h0;cases h0
    ·rw [if_neg h3] at h0 ⊢
     obtain ⟨a1,a2,a3,a4,_⟩:=Zsw hP n _ _ (hP c h h1 h2') h0
     rw [List.length_append] at a4
     simp only [List.length_cons,List.length_nil] at a4
     exact ⟨a1,a2,a3,by omega,fun _=>by omega,fun k=>absurd k h2⟩
  ·rw [if_pos h1] at h0;exact absurd h0 h1
theorem Znn {S:List Li→List Li×Int×Bool×Int}:∀ (n:Nat) (c:List Li) (u:List Int),(normF S n c u).2.2≠0→(normF S n c u).1=[]∧(normF S n c u).2.1=[]
 | 0,c,u,_=>⟨rfl,rfl⟩
 | n+1,c,u,h=>by
  rw [normF] at h ⊢
  split
  ·exact ⟨rfl,rfl⟩
  ·rename_i h1
   rw [if_neg h1] at h
   split
   ·rename_i h2;rw [if_pos h2] at h;exact absurd rfl h
   ·rename_i h2
    rw [if_neg h2] at h
    split
    ·exact ⟨rfl,rfl⟩
    ·rename_i h3
     rw [if_neg h3] at h
     exact Znn n _ _ h
theorem Ybi {g:List Sy} {es:List (List Li)} {c:List Li} (h:(normX g es c).2.2≠0):(normX g es c).1=[]∧(normX g es c).2.1=[]:=by
 unfold normX normalF at h ⊢
 split
 ·exact ⟨rfl,rfl⟩
 ·rename_i hw
  rw [if_neg hw] at h
  exact Znn _ _ _ h
theorem Ymu {g:List Sy} {es:List (List Li)} {c x:List Li} (h:inX es c) (hx:rtC g x):inX es x:=by
 refine ⟨h.1,fun y hy=>?_⟩
 rcases List.mem_cons.1 hy with rfl | hy
 ·refine ⟨fun i hi=>?_,hx.2⟩
  obtain ⟨a1,a2⟩:=Zcy hx (List.getElem_mem hi)
  have b1:=(Zc2 a1).2
  have b2:=(Zc2 a2).2
  omega
 ·exact h.2 y (List.mem_cons_of_mem _ hy)
theorem Yeg {g:List Sy} {es:List (List Li)} {c:List Li} (h:inX es c) (h0:(normX g es c).2.2=0):wrongL g (c :: es)=0∧rtC g (normX g es c).1∧normX g es (normX g es c).1=((normX g es c).1,[],0)∧decide (0<(normX g es c).2.1.length)=(stepX g es c).2.2.1:=by
 have hw:wrongL g (c :: es)=0:=by
  by_cases hw:wrongL g (c :: es)=0
  ·exact hw
  ·unfold normX normalF at h0
   rw [if_pos hw] at h0
   exact absurd h0 hw
 have hi:=Zfn h hw
 have e1:normX g es c=normF (stepP g (unitsOf es)) 201 c []:=by unfold normX normalF;exact if_neg (fun k=>k hw)
 have e2:stepX g es c=stepP g (unitsOf es) c:=Zmm hw
 rw [e1] at h0
 obtain ⟨a1,a2,a3,a4,a5,a6⟩:=Zsw (P:=rtC g) (fun d hd k0 _=>Zi8 hi.2.1 hd k0) 201 c [] hi.1 h0
 rw [e1,e2]
 generalize hx:(normF (stepP g (unitsOf es)) 201 c []).1=x at *
 refine ⟨hw,a1,?_,?_⟩
 ·have hw2:wrongL g (x :: es)=0:=by
   rw [wrongL,if_neg (fun k=>k a1.1)]
   rw [wrongL] at hw
   split at hw
   ·rename_i h3;exact absurd hw h3
   ·exact hw
  have e3:normX g es x=normF (stepP g (unitsOf es)) 201 x []:=by unfold normX normalF;exact if_neg (fun k=>k hw2)
  rw [e3,normF,if_neg (fun k=>k a2),if_pos a3]
 ·cases hb:(stepP g (unitsOf es) c).2.2.1 with
  | true=>rw [decide_eq_true_eq];exact Nat.lt_of_le_of_lt (Nat.zero_le _) (a5 hb)
  | false=>rw [a6 hb];rfl
theorem Zw3 {g:List Sy} {es:List (List Li)} {c:List Li} (h:inX es c) (h0:(stepX g es c).2.2.2=0):(stepX g es c).2.2.1=true→st10 g (stepX g es c).1 c = -1:=by
 have hw:=(Zid h h0).1
 have hi:=Zfn h hw
 rw [Zmm hw] at h0 ⊢
 exact Zvi hi.2.1 hi.1 h0
theorem Zv6 {g:List Sy} {es:List (List Li)} {c:List Li} (h:inX es c) (h0:(stepX g es c).2.2.2=0):(stepX g es c).2.2.1=false→(stepX g es c).1=c:=by
 have hw:=(Zid h h0).1
 rw [Zmm hw] at h0 ⊢
 intro h1
 unfold stepP stepF at h0 h1 ⊢
 split
 ·rfl
 ·rename_i hf
  rw [hf] at h0 h1
  simp only at h0 h1
  split at h1
  ·cases h1
  ·rename_i hc;rw [if_neg hc] at h0;exact absurd h0 hc
end Go.Proofs
namespace Go.Proofs
open Go Go.Abs
attribute [local go_sem] Nat.reduceAdd Nat.reduceSub Nat.reduceMul Nat.reduceLeDiff Nat.reduceEqDiff Nat.reduceBEq Nat.reduceLT Nat.le_refl Int.natCast_zero Nat.sub_zero List.length_map Int.toNat_natCast Int.natCast_one Int.reduceEq Int.reduceLT Int.reduceLE Int.reduceNe Int.sub_zero Int.zero_add Int.toNat_one
theorem Zv1:CallEq Tryz.prog 65 [.ps 5 []] (.ps 5 []):=by
 refine CallEq.begin (rs:=[.tmp 2]) (m:=7) 1000 Tryz.func65 rfl rfl rfl (by decide) trivial ?_
 simp only [go_sem]
 refine ⟨by simp,by simp [appOk]⟩
theorem Zt1:CallEq Tryz.prog 37 [.ps 5 [], .ps 5 [], .fn 38 [] []] (.ps 5 []):=by
 refine CallEq.begin (rs:=[.tmp 6]) (m:=33) 1000 Tryz.func37 rfl rfl rfl (by decide) trivial ?_
 simp only [go_sem]
 refine VCall.isoT [] (Zv1) (Za1 _ _ _) (by simp [go_sem, ]) ?_;rw [Zag];simp only [ite_self];refine EvK.go 1000 ?_
 simp only [go_sem]
 refine EvK.loopI (ι:=Unit) 1000 (fun _=>mkT 36 [(5, .ptr 0 0),(6, .nils),(8, .nils),(14, .ps 5 []),(15, .int .i64 0),(16, .int .i64 0)]) (fun _=>[fsB]) (fun _=>0) () ?_ (fun _=>Nat.zero_le _) ?_
 ·unfold fsB
  simp only [go_sem]
 ·intro _
  unfold fsB
  simp only [go_sem]
  refine EvK.go 1000 ?_
  simp only [go_sem]
theorem Zrm (g:List Sy):CallEq Tryz.prog 16 [.ps 4 (syms g), .ps 5 (lits []), .ps 5 (lits [])] (.tup [.int .i64 0, .int .i64 (clauseCheck g [])]):=by
 refine CallEq.begin (rs:=[.tmp 6, .tmp 7]) (m:=46) 1000 Tryz.func16 rfl rfl rfl (by decide) ⟨trivial,trivial,trivial⟩ ?_
 have k1:=Zez g [] (fun i h=>absurd h (by simp))
 simp only [go_sem]
 refine VCall.isoT [] k1 (Za1 _ _ _) ⟨Za9 _,Za2 _,trivial⟩ ?_
 simp only [flatR,flatA,flatC,if_true]
 refine EvK.go 1000 ?_
 by_cases h1:clauseCheck g []=0
 ·simp only [go_sem,h1]
  refine VCall.isoT [] k1 (Za1 _ _ _) ⟨Za9 _,Za2 _,trivial⟩ ?_
  simp only [flatR,flatA,flatC,if_true]
  refine EvK.go 1000 ?_
  simp only [go_sem,h1,show lits []=[] from rfl]
  refine VCall.isoT [] Zt1 (Za1 _ _ _) ⟨trivial,trivial,⟨trivial,trivial⟩,trivial⟩ ?_
  rw [Zag];simp only [ite_self]
  refine EvK.go 1000 ?_
  simp only [go_sem]
  refine VCall.isoT [] Zt1 (Za1 _ _ _) ⟨trivial,trivial,⟨trivial,trivial⟩,trivial⟩ ?_
  rw [Zag];simp only [ite_self]
  refine EvK.go 1000 ?_
  simp only [go_sem,List.length_nil,show IntKind.i64.wrap 0=0 from rfl]
 ·simp only [go_sem,h1]
theorem Zqv (g:List Sy) {a b:List Li} (ha:rtC g a) (hb:rtC g b) (h0:a=[]↔b=[]):CallEq Tryz.prog 16 [.ps 4 (syms g), .ps 5 (lits a), .ps 5 (lits b)] (.tup [.int .i64 (st10 g a b), .int .i64 0]):=by
 obtain ⟨hsig,l1,_⟩:=Zcj ha.1
 have l2:=(Zcj hb.1).2.1
 obtain ⟨hg,hgl⟩:=Zxj hsig
 by_cases h:a=[]
 ·have hb':=h0.1 h
  subst h;subst hb'
  have:=Zrm g
  rw [ha.1] at this
  exact this
 ·have:=Ziw g hg (by omega) a b h (fun k=>h (h0.2 k)) (by omega) (by omega) (Zm4 ha) (Zm4 hb)
  rw [Yk9 ha hb] at this
  exact this
theorem Yb7 {g:List Sy} {es:List (List Li)} {c:List Li} (h:inX es c) (h0:(stepX g es c).2.2.2=0):(stepX g es c).1=[]↔c=[]:=by
 have hw:=(Zid h h0).1
 rw [Zmm hw] at h0 ⊢
 unfold stepP stepF at h0 ⊢
 split
 ·exact Iff.rfl
 ·rename_i s u t hf
  rw [hf] at h0
  simp only at h0
  split
  ·simp only
   unfold putC
   split
   ·rename_i l hl
    have:c≠[]:=by rintro rfl;simp at hl
    constructor
    ·intro e
     have:=congrArg List.length e
     rw [List.length_set] at this
     exact List.eq_nil_of_length_eq_zero this
    ·intro e;exact absurd e this
   ·exact Iff.rfl
  ·rename_i hc;rw [if_neg hc] at h0;exact absurd h0 hc
set_option maxHeartbeats 1000000 in
theorem Zhi (g:List Sy) (es:List (List Li)) (c:List Li) (f1:∀ x∈es,fitC x) (f2:fitC c) (hcl:c.length≤2600000000000) {W:World} {vs:Array Value}
  (h2:vs.size=([.ps 4 (syms g), .ps 1 (clsA es), .ps 5 (lits c)]:List AVal).length)
  (h3:∀ k,k<([.ps 4 (syms g), .ps 1 (clsA es), .ps 5 (lits c)]:List AVal).length→Rep W noM noB (vs.getD k undef) (([.ps 4 (syms g), .ps 1 (clsA es), .ps 5 (lits c)]:List AVal).getD k .undef)) :
  Calls Tryz.prog 5 vs W fun e w'=>e = .returned (.bool true)∧RowKit.Below W.heap.size W w':=by
 refine Zuc (args:=[.ps 4 (syms g), .ps 1 (clsA es), .ps 5 (lits c)]) (rs:=[.tmp 6]) (m:=114) 1000 Tryz.func5 rfl rfl rfl rfl ?_ (fun x hx=>by cases hx) h2 h3
 clear h2 h3
 simp only [go_sem]
 refine VCall.isoT [] (Yi7 g es c hcl) (Za1 _ _ _) (by simp [go_sem,Za9,Zas,Za2]) ?_;simp only [flatR,flatA,flatC,if_true];refine EvK.go 1000 ?_
 cases hfew:(symsFew g&&(fewE es&&fewC c)) with
 | false=>simp only [go_sem]
 | true =>
 simp only [Bool.and_eq_true] at hfew
 obtain ⟨hg,he,hc⟩:=hfew
 have hin:=Yqe he hc f1 f2
 have hS:=Zt7 g es c hin
 have hbad:=fun h=>Yap (g:=g) (es:=es) (c:=c) h
 have hrt:=fun h=>Zid (g:=g) hin h
 have hless:=Zw3 (g:=g) hin
 have hsame:=Zv6 (g:=g) hin
 have hnil:=Yb7 (g:=g) hin
 have hN:=Zlx g es c hin
 have hnb:=Ybi (g:=g) (es:=es) (c:=c)
 have hok:=Yeg (g:=g) hin
 generalize stepX g es c=X at *
 obtain ⟨d,n,ok,e⟩:=X
 try simp only at hS
 try simp only at hbad
 try simp only at hrt
 try simp only at hless
 try simp only at hsame
 try simp only at hnil
 try simp only at hok
 by_cases h0:e=0
 ·subst h0
  obtain ⟨hw,hd⟩:=hrt rfl
  have hcr:=(Zfn hin hw).1
  have hC:=Zqv g hd hcr (hnil rfl)
  have hE:=Zg4 c d (Zh6 hcr).1 (Zh6 hd).1 (by have:=(Zh6 hcr).2;omega)
  have hlt:=hless rfl
  have heq:=hsame rfl
  generalize st10 g d c=k at *
  generalize normX g es c=N at *
  obtain ⟨x,l,h⟩:=N
  try simp only at hN
  try simp only at hnb
  try simp only at hok
  simp only [go_sem]
  refine VCall.isoT [] (hS) (Za1 _ _ _) (by simp [go_sem,Za9,Zas,Za2]) ?_;rw [Zag];simp only [ite_self];refine EvK.go 1000 ?_
  simp only [go_sem]
  refine VCall.isoT [] (hC) (Za1 _ _ _) (by simp [go_sem,Za9,Za2]) ?_;simp only [flatR,flatA,flatC,if_true];refine EvK.go 1000 ?_
  cases ok
  case' true =>
   have hk:=hlt rfl
   subst hk
   simp only [go_sem,decide_true,Bool.not_true]
  case' false =>
   have hk:=heq rfl
   subst hk
   rw [(Zgq _ _).2 rfl] at hE
   simp only [go_sem]
   refine VCall.isoT [] (hE) (Za1 _ _ _) (by simp [go_sem,Za2]) ?_;simp only [flatR,flatA,flatC,if_true];refine EvK.go 1000 ?_
   simp only [go_sem]
  all_goals
   refine VCall.isoT [] (hN) (Za1 _ _ _) (by simp [go_sem,Za9,Zas,Za2]) ?_;rw [Zag];simp only [ite_self];refine EvK.go 1000 ?_
   by_cases h1:h=0
   ·subst h1
    obtain ⟨_,hx,hxx,hlen⟩:=hok rfl
    have hN2:=Zlx g es x (Ymu hin hx)
    rw [hxx] at hN2
    have hE2:=Zg4 x x (Zh6 hx).1 (Zh6 hx).1 (by have:=(Zh6 hx).2;omega)
    rw [(Zgq _ _).2 rfl] at hE2
    simp only [go_sem]
    refine VCall.isoT [] (hN2) (Za1 _ _ _) (by simp [go_sem,Za9,Zas,Za2]) ?_;rw [Zag];simp only [ite_self];refine EvK.go 1000 ?_
    simp only [go_sem]
    refine VCall.isoT [] (Ziv) (Za1 _ _ _) (by simp [go_sem, ]) ?_;simp only [flatR,flatA,flatC,if_true];refine EvK.go 1000 ?_
    simp only [decide_eq_true_eq,decide_eq_false_iff_not] at hlen
    have hlen2:(0:Int)<l.length↔0<l.length:=by omega
    simp only [go_sem,Zam,hlen2,hlen]
    refine VCall.isoT [] (hE2) (Za1 _ _ _) (by simp [go_sem,Za2]) ?_;simp only [flatR,flatA,flatC,if_true];refine EvK.go 1000 ?_
    simp only [go_sem]
   ·obtain ⟨rfl,rfl⟩:=hnb h1
    simp only [go_sem,h1]
    refine VCall.isoT [] (Ziv) (Za1 _ _ _) (by simp [go_sem, ]) ?_;simp only [flatR,flatA,flatC,if_true];refine EvK.go 1000 ?_
    simp only [go_sem,Zam,List.length_nil]
 ·obtain ⟨rfl,rfl⟩:=hbad h0
  simp only [go_sem]
  refine VCall.isoT [] (hS) (Za1 _ _ _) (by simp [go_sem,Za9,Zas,Za2]) ?_;simp only [flatR,flatA,flatC,if_true];refine EvK.go 1000 ?_
  simp only [go_sem,h0]
  refine VCall.isoT [] (Ziv) (Za1 _ _ _) (by simp [go_sem, ]) ?_;simp only [flatR,flatA,flatC,if_true];refine EvK.go 1000 ?_
  simp only [go_sem,Zah,List.length_nil]
end Go.Proofs
