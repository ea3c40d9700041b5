/- Part 47 of my own framework and of the walks of functions: Db, Dc, Bc, Dd, De, Ea, Eb, Ec, Ed, Ee, Fa, Fb, Fc, Fd, Fe. -/
import Derived.Test.YtfjbdamcmiglgaaGreatOwn46
set_option linter.unusedVariables false
set_option linter.unusedSectionVars false
set_option linter.unusedSimpArgs false
namespace Go.Proofs
open Go Go.cV
theorem SX:∀ (es:List (List Li)) (i:Nat), ∀ u∈j4 es i,(i:Int)≤u.off∧u.off<i+es.length
 | [],_,u,h=>by rw [j4] at h;cases h
 | c :: es,i,u,h=>by
  rw [j4] at h
  rcases aX.1 h with h | h
  ·unfold rK at h
   split at h
   ·split at h
    ·cases h
    ·simp only [aP,dO,or_false] at h
     rcases h with rfl | rfl<;>simp only [au]<;>omega
   ·cases h
  ·have:=SX es (i+1) u h
   simp only [au];omega
theorem Ztr {es:List (List Li)} {u:Un} (h:u∈cM es) : 0≤u.off∧u.off<es.length:=by
 unfold cM at h
 have:=SX es 0 u (lZ.1 h).1
 omega
theorem YV {g:List Sy} {us:List Un} {c:List Li} (h0:(de g us c).2.2.2=0) (h1:¬ (de g us c).2.2.1=false):∃ u∈us,(de g us c).2.1=u.off:=by
 unfold de kQ at h0 h1 ⊢
 rcases EV (TT g c) us (cG c 0) with ⟨f1,_⟩ | ⟨k,hk,x,f1,f2,_⟩
 ·rw [f1] at h1;exact absurd rfl h1
 ·rw [f1] at h0 h1 ⊢
  simp only at h0 h1 ⊢
  split at h0
  ·rename_i h2
   rw [if_pos h2]
   exact ⟨x.1,(J3 f2).1,rfl⟩
  ·rename_i h2
   exact absurd h0 (by simpa using h2)
theorem SB {g:List Sy} {us:List Un} {P:Int→Prop} (hP:∀ u∈us,P u.off):∀ (n:Nat) (c:List Li) (l:List Int),(∀ k∈l,P k)→∀ k∈(dM (de g us) n c l).2.1,P k
 | 0,c,l,_=>by rw [dM];intro k hk;cases hk
 | n+1,c,l,h=>by
  rw [dM]
  split
  ·intro k hk;cases hk
  ·rename_i h1
   split
   ·exact h
   ·rename_i h2
    split
    ·intro k hk;cases hk
    ·refine SB hP n _ _ fun k hk=>?_
     rcases aX.1 hk with hk | hk
     ·exact h k hk
     ·obtain ⟨u,hu,e⟩:=YV (by simpa using h1) h2
      rw [aQ.1 hk,e]
      exact hP u hu
theorem Sg {g:List Sy} {es:List (List Li)} {c:List Li}:∀ k∈(cx g es c).2.1,0≤k∧k<es.length:=by
 unfold cx fQ
 split
 ·intro k hk;cases hk
 ·exact SB (fun u hu=>Ztr hu) _ _ _ (fun k hk=>by cases hk)
theorem Fk {k j:Int} {W:Wk}:j∈(jz k W).u↔j∈W.u∨j=k:=by
 unfold jz
 split
 ·rename_i h
  exact ⟨.inl,fun h2=>h2.elim id fun e=>e ▸ h⟩
 ·simp
theorem QU {k:Int} {W:Wk} (h:W.u.Nodup):(jz k W).u.Nodup:=by
 unfold jz
 split
 ·exact h
 ·rename_i hn
  simp only
  rw [gB]
  refine ⟨h,by simp,fun a ha b hb e=>?_⟩
  rw [aQ.1 hb] at e
  exact hn (e ▸ ha)
theorem Pz (k:Int) (W:Wk):(jz k W).d=W.d∧(jz k W).e=W.e∧(jz k W).gone=W.gone∧(jz k W).sy=W.sy:=by unfold jz;split<;>exact ⟨rfl,rfl,rfl,rfl⟩
theorem HU {j:Int}:∀ {l:List Int} {W:Wk},j∈(gf l W).u↔j∈W.u∨j∈l
 | [],W=>by simp [gf]
 | k :: l,W=>by rw [gf,HU,Fk,aP,or_assoc]
theorem QJ:∀ {l:List Int} {W:Wk},W.u.Nodup→(gf l W).u.Nodup
 | [],W,h=>h
 | k :: l,W,h=>by rw [gf];exact QJ (QU h)
theorem RQ:∀ (l:List Int) (W:Wk),(gf l W).u.length≤W.u.length+l.length
 | [],W=>by simp [gf]
 | k :: l,W=>by
  rw [gf]
  have:=RQ l (jz k W)
  have:=Lm k W
  simp only [au];omega
theorem Ot:∀ (l:List Int) (W:Wk),(gf l W).d=W.d∧(gf l W).e=W.e∧(gf l W).gone=W.gone∧(gf l W).sy=W.sy
 | [],W=>⟨rfl,rfl,rfl,rfl⟩
 | k :: l,W=>by
  rw [gf]
  obtain ⟨a1,a2,a3,a4⟩:=Ot l (jz k W)
  obtain ⟨b1,b2,b3,b4⟩:=Pz k W
  exact ⟨a1.trans b1,a2.trans b2,a3.trans b3,a4.trans b4⟩
theorem S8:∀ {es:List (List Li)} {k:Nat} {d:List Li} {x:Nat×Nat},kX k es d=some x→∃ (i:Nat) (h:i<es.length),x.1=k+i∧(mW es[i] d).2.2=0∧(mW es[i] d).2.1=true∧(mW es[i] d).1=(x.2:Int)∧x.2<d.length
 | [],_,_,_,h=>by rw [kX] at h;cases h
 | c :: es,k,d,x,h=>by
  rw [kX] at h
  split at h
  ·rename_i hc
   obtain ⟨i,e,hi⟩:=OQ hc
   cases h
   refine ⟨0,by simp,rfl,hc.1,hc.2,?_,?_⟩
   ·simp only [eK];rw [e];rfl
   ·simp only;rw [e];exact hi
  ·obtain ⟨i,hi,h1,h2⟩:=S8 h
   exact ⟨i+1,by simp;omega,by omega,by simpa using h2⟩
theorem Iv {g:List Sy} {es:List (List Li)} {W:Wk} (h:calm g (cM es) W.d):G6 g es W=2*W.d.length:=by unfold G6;rw [if_pos h];rfl
theorem PH {g:List Sy} {es:List (List Li)} {W:Wk} (h:¬ calm g (cM es) W.d):G6 g es W=2*W.d.length+1:=by unfold G6;rw [if_neg h]
theorem Lv {g:List Sy} {es:List (List Li)} {c:List Li} (h:rf es c) (hw:cB g (c :: es)=0) {n:Nat} {W:Wk} (hI:IW g es (n+1) W) (h1:(dB (cQ g es) W).1=1):IW g es n (dB (cQ g es) W).2:=by
 obtain ⟨fh,BO⟩:=LM h hw hI.rt
 have hu:∀ u∈cM es,fG u=false∧jQ g u.l∧jQ g u.r:=fun u hu=>⟨Ztf hu,Rh (g:=g) (fun x hx=>(Jz h hw x hx).1) (fun x hx=>(Jz h hw x hx).2) hu⟩
 have GG:=hI.mu
 have hlen:=hI.len
 rcases DU g es W with ⟨_,e⟩ | ⟨_,_,e⟩ | ⟨_,h2,h3,e⟩ | ⟨_,h2,h3,x,h4,e⟩ | ⟨_,_,_,_,k,_,e⟩ | ⟨_,_,_,_,_,e⟩
 ·rw [e] at h1;exact absurd h1 (by simp)
 ·rw [e] at h1;exact absurd h1 (by simp)
 ·rw [e]
  have Es:¬ calm g (cM es) W.d:=fun k=>h3 ((Kj BO).1 k).2
  have hn:=YY fh h2
  have BK:=(KQ fh h2).2.1
  have ur:=OO BK
  have ya:=Tr (T7 _) BK ur hu hn
  have hl:=Xs h2
  have VL:=TX (cx g es W.d).1
  have wc:=Ry g es W.d
  have wb:=RQ (cx g es W.d).2.1 { W with d:=ia (cx g es W.d).1 }
  obtain ⟨d1,d2,d3,d4⟩:=Ot (cx g es W.d).2.1 { W with d:=ia (cx g es W.d).1 }
  have oS:=QJ (l:=(cx g es W.d).2.1) (W:={ W with d:=ia (cx g es W.d).1 }) hI.nodup
  have jy:=fun j=>HU (j:=j) (l:=(cx g es W.d).2.1) (W:={ W with d:=ia (cx g es W.d).1 })
  rw [PH Es] at GG
  simp only at d1 d2 d3 d4 wb ⊢
  generalize gf (cx g es W.d).2.1 { W with d:=ia (cx g es W.d).1 }=X at *
  refine ⟨by rw [d1];exact ur,by rw [d2];exact hI.e,by rw [d3];exact hI.gone,by rw [d4];exact hI.sy,by rw [d1];exact RV _,oS,fun k hk=>?_,by omega,?_⟩
  ·rcases (jy k).1 hk with hk | hk
   ·exact hI.rows k hk
   ·exact Sg k hk
  ·rw [Iv (by rw [d1];exact ya),d1];omega
 ·rw [e]
  have Es:calm g (cM es) W.d:=(Kj BO).2 ⟨h2,h3⟩
  obtain ⟨i,hi,q1,q2,q3,q4,q5⟩:=S8 h4
  have ur:=Z0 x.2 hI.rt
  have ya:=Tr (S7 W.d x.2) hI.rt ur hu Es
  have hl:(W.d.eraseIdx x.2).length=W.d.length - 1:=mL q5
  obtain ⟨d1,d2,d3,d4⟩:=Pz (x.1:Int) { W with d:=W.d.eraseIdx x.2 }
  have wb:=Lm (x.1:Int) { W with d:=W.d.eraseIdx x.2 }
  have oS:=QU (k:=(x.1:Int)) (W:={ W with d:=W.d.eraseIdx x.2 }) hI.nodup
  have jy:=fun j=>Fk (k:=(x.1:Int)) (j:=j) (W:={ W with d:=W.d.eraseIdx x.2 })
  rw [Iv Es] at GG
  simp only at d1 d2 d3 d4 wb ⊢
  generalize jz (x.1:Int) { W with d:=W.d.eraseIdx x.2 }=X at *
  refine ⟨by rw [d1];exact ur,by rw [d2];exact hI.e,by rw [d3];exact hI.gone,by rw [d4];exact hI.sy,by rw [d1];exact Q8 _ hI.tidy,oS,fun k hk=>?_,by omega,?_⟩
  ·rcases (jy k).1 hk with hk | rfl
   ·exact hI.rows k hk
   ·omega
  ·rw [Iv (by rw [d1];exact ya),d1];omega
 ·rw [e] at h1;exact absurd h1 (by simp)
 ·rw [e] at h1;exact absurd h1 (by simp)
theorem B6 {g:List Sy} {es:List (List Li)} {c:List Li} (h:rf es c) (hw:cB g (c :: es)=0):IW g es 70 (qu c):=by
 have BK:kN g c:=⟨B_ hw c (by simp),(h.2 c (by simp)).2⟩
 have ur:=OO BK
 refine ⟨ur,rfl,rfl,rfl,RV c,kE,fun k hk=>(by cases hk),by simp [qu],?_⟩
 have hl:=(zG ur.1).2.1
 have hd:(qu c).d=ia c:=rfl
 by_cases hc:calm g (cM es) (qu c).d
 ·rw [Iv hc,hd];omega
 ·rw [PH hc,hd];omega
theorem Pn {g:List Sy} {es:List (List Li)} {W:Wk} (h:(dB (cQ g es) W).1≠1):(dB (cQ g es) W).2.d=W.d:=by
 rcases DU g es W with ⟨_,e⟩ | ⟨_,_,e⟩ | ⟨_,h2,h3,e⟩ | ⟨_,h2,h3,x,h4,e⟩ | ⟨_,_,_,_,k,_,e⟩ | ⟨_,_,_,_,_,e⟩
 ·rw [e]
 ·rw [e]
 ·rw [e] at h;exact absurd rfl h
 ·rw [e] at h;exact absurd rfl h
 ·rw [e]
 ·rw [e]
theorem Iz (g:List Sy) (es:List (List Li)) (c:List Li) (h:rf es c) :
  aJ Tryz.prog 9 [.ps 4 (syms g), .ps 1 (cP es), .ps 5 (lits c)] (.dy [(gF g es c).1.aN, .int .i64 (gF g es c).2]):=by
 have hl:=h.1
 have BK:=fun hw:cB g (c :: es)=0=>(⟨B_ hw c (by simp),(h.2 c (by simp)).2⟩:kN g c)
 refine Yw1 g es c (fun n W=>cB g (c :: es)=0∧IW g es n W) (fun x hx=>(h.2 x hx).1) (fun hw=>Fy (BK hw)) (by omega) (fun hw x hx=>Fy (Jz h hw x hx)) (fun hw=>⟨hw,B6 h hw⟩) ?_ ?_ ?_
 ·rintro n W ⟨hw,hI⟩
  obtain ⟨fh,BO⟩:=LM h hw hI.rt
  have GG:=hI.mu
  have hlen:=hI.len
  have wc:=Ry g es W.d
  exact ⟨⟨n - 1,by omega⟩,Fy hI.rt,fh,fun h2=>Fy (KQ fh h2).2.1,by omega⟩
 ·rintro n W ⟨hw,hI⟩ h1
  exact ⟨hw,Lv h hw hI h1⟩
 ·rintro n W ⟨hw,hI⟩ h1 _
  rw [Pn h1]
  exact ⟨Fy hI.rt,Yjl hI.rt⟩
theorem T6 {g:List Sy} {es:List (List Li)} {c:List Li} (h:rf es c) (hw:cB g (c :: es)=0):∀ (n:Nat) (W:Wk),IW g es n W→∃ (m:Nat) (X:Wk),IW g es m X∧(dB (cQ g es) X).1≠1∧iY g es n W=(dB (cQ g es) X).2
 | 0,W,hI=>absurd hI.mu (by omega)
 | n+1,W,hI=>by
  rw [iY]
  split
  ·rename_i h1
   exact T6 h hw n _ (Lv h hw hI h1)
  ·rename_i h1
   exact ⟨n+1,W,hI,h1,rfl⟩
theorem Zg {g:List Sy} {d:List Li} (hd:kN g d):iD (cT d)=false:=by
 rw [← dj]
 unfold iD
 rw [er]
 rintro ⟨t,ht,ho⟩
 unfold cT at ht
 rw [oI] at ht
 obtain ⟨l,hl,ht⟩:=ht
 obtain ⟨a1,a2⟩:=uP hd hl
 simp only [aP,dO,or_false] at ht
 rcases ht with rfl | rfl
 ·simp [(ph a1.1).1] at ho
 ·simp [(ph a2.1).1] at ho
theorem ZY {g:List Sy} {d:List Li} (hd:kN g d):kJ d=(w9 d,0):=by unfold kJ;rw [Zg hd];rfl
section
variable {r:Int→Int} {p:Int→Prop}
end
theorem Tk:∀ (n:Nat) (l:List Int),l.Nodup→(∀ v∈l,0≤v∧v<n)→l.length≤n
 | 0,l,_,h=>by
  cases l with
  | nil=>exact ah _
  | cons a l=>have:=h a (by simp);omega
 | n+1,l,hn,h=>by
  have h1:=Tk n (l.erase (n:Int)) (hn.erase _) (fun v hv=>by
   rw [hn.mem_erase_iff] at hv
   have:=h v hv.2
   have:=hv.1
   omega)
  have h2:l.length≤(l.erase (n:Int)).length+1:=by
   rw [List.length_erase];split<;>omega
  omega
theorem Yjw (S:List Int) (v:Int):∃ l,kK S v=S++l:=by
 unfold kK;split
 ·exact ⟨[],by simp⟩
 ·exact ⟨[v],rfl⟩
theorem TF (S:List Int) (v w:Int):w∈kK S v↔w∈S∨w=v:=by
 unfold kK;split
 ·rename_i h
  exact ⟨.inl,fun h2=>h2.elim id fun e=>e ▸ h⟩
 ·simp
theorem Zyl {S:List Int} (v:Int) (h:S.Nodup):(kK S v).Nodup:=by
 unfold kK;split
 ·exact h
 ·rename_i hn
  rw [gB]
  refine ⟨h,by simp,fun a ha b hb e=>?_⟩
  rw [aQ.1 hb] at e
  exact hn (e ▸ ha)
theorem Ysd {S l:List Int} {v:Int} (h:v∈S):(S++l).idxOf v=S.idxOf v:=by rw [List.idxOf_append,if_pos h]
mutual
theorem Ynt:∀ (t:Tm) (S:List Int), ∃ l,(t.num S).2=S++l
 | .mk h ts,S=>by
  rw [Tm.num];split
  ·exact Yjw S _
  ·exact KL ts S
theorem KL:∀ (ts:List Tm) (S:List Int), ∃ l,(Tm.fU ts S).2=S++l
 | [],S=>⟨[],by simp [Tm.fU]⟩
 | t :: ts,S=>by
  rw [Tm.fU]
  obtain ⟨l,hl⟩:=Ynt t S
  obtain ⟨m,hm⟩:=KL ts (t.num S).2
  exact ⟨l++m,by simp only;rw [hm,hl,cJ]⟩
end
mutual
theorem Xd:∀ (t:Tm) (S:List Int),S.Nodup→(t.num S).2.Nodup
 | .mk h ts,S,hn=>by
  rw [Tm.num];split
  ·exact Zyl _ hn
  ·exact J7 ts S hn
theorem J7:∀ (ts:List Tm) (S:List Int),S.Nodup→(Tm.fU ts S).2.Nodup
 | [],S,hn=>by rw [Tm.fU];exact hn
 | t :: ts,S,hn=>by rw [Tm.fU];exact J7 ts _ (Xd t S hn)
end
mutual
theorem Ys9 {P:Int→Prop}:∀ (t:Tm) (S:List Int),(∀ v∈S,P v)→t.iG P→∀ v∈(t.num S).2,P v
 | .mk h ts,S,hS,ht=>by
  rw [Tm.iG] at ht
  rw [Tm.num];split
  ·rename_i fM
   intro v hv
   rcases (TF S _ v).1 hv with hv | rfl
   ·exact hS v hv
   ·exact ht.1 fM
  ·exact KZ ts S hS ht.2
theorem KZ {P:Int→Prop}:∀ (ts:List Tm) (S:List Int),(∀ v∈S,P v)→Tm.je P ts→∀ v∈(Tm.fU ts S).2,P v
 | [],S,hS,_=>by rw [Tm.fU];exact hS
 | t :: ts,S,hS,ht=>by rw [Tm.je] at ht;rw [Tm.fU];exact KZ ts _ (Ys9 t S hS ht.1) ht.2
end
mutual
theorem Ytn:∀ (t:Tm) (S:List Int) (T:List Int),t.good=true→(∃ l,T=(t.num S).2++l)→(t.num S).1=t.rn (fun v=>(T.idxOf v:Int))∧t.iG (· ∈ T)
 | .mk h ts,S,T,hg,⟨l,hT⟩=>by
  by_cases fM:h<0
  ·rw [Tm.num,if_pos fM] at hT ⊢
   have hm:(-1 - h)∈kK S (-1 - h):=(TF S _ _).2 (.inr rfl)
   have ha:=Ru hg fM
   simp only [Tm.args] at ha
   subst ha
   refine ⟨?_,?_⟩
   ·rw [JB (t:=.mk h []) fM]
    show Tm.mk _ []=Tm.mk _ []
    rw [show (Tm.mk h []).head=h from rfl,hT,Ysd hm]
   ·rw [Tm.iG]
    exact ⟨fun _=>by rw [hT];exact gA _ hm,trivial⟩
  ·rw [Tm.num,if_neg fM] at hT ⊢
   obtain ⟨a1,a2⟩:=LI ts S T (zH hg) ⟨l,hT⟩
   refine ⟨?_,?_⟩
   ·rw [Js (t:=.mk h ts) fM]
    show Tm.mk _ _=Tm.mk _ _
    rw [a1];rfl
   ·rw [Tm.iG]
    exact ⟨fun k=>absurd k fM,a2⟩
theorem LI:∀ (ts:List Tm) (S:List Int) (T:List Int),(∀ t∈ts,t.good=true)→(∃ l,T=(Tm.fU ts S).2++l)→(Tm.fU ts S).1=ts.map (Tm.rn fun v=>(T.idxOf v:Int))∧Tm.je (· ∈ T) ts
 | [],S,T,_,_=>⟨by rw [Tm.fU];rfl,trivial⟩
 | t :: ts,S,T,hg,⟨l,hT⟩=>by
  rw [Tm.fU] at hT ⊢
  simp only at hT ⊢
  obtain ⟨m,hm⟩:=KL ts (t.num S).2
  obtain ⟨a1,a2⟩:=Ytn t S T (hg t (by simp)) ⟨m++l,by rw [hT,hm,cJ]⟩
  obtain ⟨b1,b2⟩:=LI ts (t.num S).2 T (fun x hx=>hg x (by simp [hx])) ⟨l,hT⟩
  exact ⟨by rw [a1,b1];rfl,by rw [Tm.je];exact ⟨a2,b2⟩⟩
end
def oZ (c:List Li):List Int:=(Tm.fU (cT c) []).2
def AQ (c:List Li):Int→Int:=fun v=>((oZ c).idxOf v:Int)
theorem OC (r:Int→Int):∀ c:List Li,xy c ((cT c).map (Tm.rn r))=BV r c
 | []=>rfl
 | l :: c=>by
  rw [show cT (l :: c)=l.l :: l.r :: cT c from rfl,aI,aI,xy,OC r c];rfl
mutual
theorem Zzo:∀ t:Tm,t.good=true→t.iG fun v=>0≤v∧v<256
 | .mk h ts,hg=>by
  rw [Tm.iG]
  have:=(zO hg).1
  simp only [Tm.head] at this
  exact ⟨fun hn=>by omega,JV ts (zH hg)⟩
theorem JV:∀ ts:List Tm,(∀ t∈ts,t.good=true)→Tm.je (fun v=>0≤v∧v<256) ts
 | [],_=>trivial
 | t :: ts,h=>⟨Zzo t (h t (by simp)),JV ts fun x hx=>h x (by simp [hx])⟩
end
theorem WX {g:List Sy} {d:List Li} (hd:kN g d):∀ t∈cT d,t.good=true:=fun t ht=>by
 unfold cT at ht
 rw [oI] at ht
 obtain ⟨l,hl,ht⟩:=ht
 obtain ⟨a1,a2⟩:=uP hd hl
 simp only [aP,dO,or_false] at ht
 rcases ht with rfl | rfl
 ·exact (sE (ph a1.1).1).2.2
 ·exact (sE (ph a2.1).1).2.2
theorem Zz8 {p:Int→Prop} {d:List Li} (h:Tm.je p (cT d)):Aa p d:=fun l hl=>by
 rw [Kt] at h
 have hm:∀ t∈[l.l,l.r],t∈cT d:=fun t ht=>by
  unfold cT
  rw [oI]
  exact ⟨l,hl,ht⟩
 exact ⟨h _ (hm _ (by simp)),h _ (hm _ (by simp))⟩
theorem Ywa {g:List Sy} {d:List Li} (hd:kN g d):qa (AQ d) (· ∈ oZ d)∧Aa (· ∈ oZ d) d∧w9 d=BV (AQ d) d:=by
 have hg:=WX hd
 obtain ⟨h1,h2⟩:=LI (cT d) [] (oZ d) hg ⟨[],by simp [oZ]⟩
 have oS:(oZ d).Nodup:=J7 (cT d) [] kE
 have hv:∀ v∈oZ d,0≤v∧v<256:=KZ (P:=fun v=>0≤v∧v<256) (cT d) [] (fun v hv=>by cases hv) (JV _ hg)
 have hlen:=Tk 256 _ oS (by simpa using hv)
 refine ⟨⟨fun v w hv hw e=>?_,fun v hv=>?_,fun v h=>(hv v h).1⟩,Zz8 h2,?_⟩
 ·unfold AQ at e
  have e2:(oZ d).idxOf v=(oZ d).idxOf w:=by omega
  have l1:=iP hv
  have l2:=iP hw
  have g1:=List.getElem_idxOf l1
  have g2:=List.getElem_idxOf l2
  rw [← g1,← g2]
  simp only [e2]
 ·have:=iP hv
  unfold AQ;omega
 ·unfold w9
  rw [h1,OC];rfl
section
variable {r:Int→Int} {p:Int→Prop}
end
end Go.Proofs
namespace Go.Proofs
open Go Go.cV
attribute [local go_sem] Nat.reduceAdd Nat.reduceSub Nat.reduceMul Nat.reduceLeDiff Nat.reduceEqDiff Nat.reduceBEq Nat.reduceLT Nat.le_refl Int.natCast_zero Nat.sub_zero List.length_map Int.toNat_natCast Int.natCast_one Int.reduceEq Int.reduceLT Int.reduceLE Int.reduceNe Int.sub_zero Int.zero_add Int.toNat_one
theorem KO:aJ Tryz.prog 45 [] (.ps 4 (syms rY)):=by
 refine aJ.begin (rs:=[.tmp 0]) (m:=6) 1000 Tryz.func45 rfl rfl rfl (by decide) (dF _) ?_
 have e1:syms rY=[.agg [.str ⟨#[36,116,114,117,101]⟩, .int .i64 0, .int .i64 1, .bool true], .agg [.str ⟨#[97]⟩, .int .i64 0, .int .i64 1, .bool false], .agg [.str ⟨#[102]⟩, .int .i64 1, .int .i64 1, .bool false], .agg [.str ⟨#[112]⟩, .int .i64 1, .int .i64 1, .bool true]]:=rfl
 simp only [go_sem,e1]
theorem D5 (t:Tm):aJ Tryz.prog 44 [t.aN] (.ps 5 (lits (im t))):=by
 refine aJ.begin (rs:=[.tmp 2]) (m:=8) 1000 Tryz.func44 rfl rfl rfl (by decide) (ct _) ?_
 have h1:=Iy 3 [t]
 have h2:=Iy 0 []
 simp only [go_sem,fq]
 refine aq.bU [1] h1 ?_ (by simp [go_sem,dE]) ?_
 ·simp only [go_sem,qB,qC,aI,aS,dc]
 rw [show bL (Tm.mk 3 [t]).aN=false from rfl]
 refine aK.go 1000 ?_
 simp only [go_sem,qB,qC]
 refine aq.bU [] h2 ?_ (by simp [go_sem,dE]) ?_
 ·simp only [go_sem,aS]
 rw [jd];simp only [ite_self]
 refine aK.go 1000 ?_
 have e1:lits (im t)=[.agg [.bool false, .int .i64 (Tm.mk 3 [t]).head, .ps 2 ((Tm.mk 3 [t]).args.map Tm.aN), .int .i64 (Tm.mk 0 []).head, .ps 2 ((Tm.mk 0 []).args.map Tm.aN)]]:=rfl
 simp only [go_sem,fq,e1]
def nS (c:List Li):Bool:=iI c&&(decide (c.length≤6)||decide (32<c.length))
theorem Tw (c:List Li):aJ Tryz.prog 22 [.ps 5 (lits c)] (.bool (nS c)):=by
 refine aJ.begin (rs:=[.tmp 2]) (m:=14) 1000 Tryz.func22 rfl rfl rfl (by decide) trivial ?_
 unfold nS
 simp only [go_sem]
 refine aq.bU [] (QT c) (cH _ _ _) ⟨ct _,trivial⟩ ?_
 simp only [bL,bZ,bX,if_true]
 refine aK.go 1000 ?_
 cases h:iI c
 ·simp only [go_sem]
 ·by_cases h1:c.length≤6
  ·have nD:(c.length:Int)≤6:=by omega
   simp only [go_sem,fO,nD,h1,decide_true,fH,Bool.and_self]
  ·have nD:¬ (c.length:Int)≤6:=by omega
   by_cases h2 : 32<c.length
   ·have uS:(32:Int)<(c.length:Int):=by omega
    simp only [go_sem,fO,nD,h1,uS,h2,decide_true,decide_false,Bool.or_true,Bool.and_self]
   ·have uS:¬ (32:Int)<(c.length:Int):=by omega
    simp only [go_sem,fO,nD,h1,uS,h2,decide_true,decide_false,Bool.or_false,gW]
def pq (c:List Li):Bool:=!nS c || !pC c
def r_ (g:List Sy) (es:List (List Li)) (c:List Li):Bool:=if es.length≤8∧es.any pq=true then false else lx g&&oN es&&pC c&&nS c
theorem ZL (g:List Sy) (es:List (List Li)) (c:List Li) (hc:c.length≤2600000000000):aJ Tryz.prog 8 [.ps 4 (syms g), .ps 1 (cP es), .ps 5 (lits c)] (.bool (r_ g es c)):=by
 refine aJ.begin (rs:=[.tmp 6]) (m:=44) 1000 Tryz.func8 rfl rfl rfl (by decide) trivial ?_
 obtain ⟨Z,hZ⟩:∃ Z,r_ g es c=Z:=⟨_,rfl⟩
 rw [hZ]
 unfold r_ at hZ
 simp only [go_sem]
 refine aK.c9 (ι:={i:Nat // i≤es.length∧(es.length≤8→(es.drop i).any pq=es.any pq)∧(i=0∨es.length≤8)}) 1000 (fun q=>fD 47 [(0, .ps 4 (syms g)),(1, .ps 1 (cP es)),(2, .ps 5 (lits c)),(6, .bool false),(7, .int .i64 q.1)])
  (fun _=>[]) (fun q=>es.length - q.1) ⟨0,av _,fun _=>rfl, .inl rfl⟩ ?_ (fun _=>av _) ?_
 ·simp only [go_sem,dF,eZ,ct]
 ·rintro ⟨i,hi,aO,h8⟩
  have hend:(es.length≤8→es.any pq=false)→(lx g&&oN es&&pC c&&nS c)=Z:=fun h=>by
   rw [if_neg (by rintro ⟨a,b⟩;rw [h a] at b;cases b)] at hZ
   exact hZ
  have hS:=Zzy g
  have hE:=Xz es
  have U6:=SL c hc
  have U7:=Tw c
  by_cases bD:(i:Int)<es.length
  ·have aZ:i<es.length:=by omega
   by_cases I2:es.length≤8
   ·have Ak:(es.length:Int)≤8:=by omega
    have hw:IntKind.i64.wrap ((i:Int)+1)=((i+1:Nat):Int):=by rw [ep (by omega)];omega
    have hp:=aO I2
    rw [ak aZ,fe] at hp
    have g1:=y_ aZ
    have Nt:=Tw es[i]
    have Ns:=fun h:es[i].length≤2600000000000=>SL es[i] h
    have hlen:nS es[i]=true→es[i].length≤40:=fun h=>by
     unfold nS at h
     rw [aD] at h
     exact (QP h.1).2
    generalize es[i]=r at *
    have qL:pq r=true→Z=false:=fun h=>by
     rw [h,fH] at hp
     rw [if_pos ⟨I2,hp.symm⟩] at hZ
     exact hZ.symm
    have j8:pq r=false→(es.drop (i+1)).any pq=es.any pq:=fun h=>by rw [h,dq] at hp;exact hp
    simp only [go_sem,mr,bD,Ak,g1]
    refine ⟨by omega,?_⟩
    refine aq.bU [] Nt (cH _ _ _) ⟨ct _,trivial⟩ ?_
    simp only [bL,bZ,bX,if_true]
    refine aK.go 1000 ?_
    cases q1:nS r
    ·have:=qL (by unfold pq;rw [q1];rfl)
     subst this
     simp only [go_sem]
     refine aK.go 1000 ?_
     simp only [go_sem]
    ·have hr:=Ns (by have:=hlen q1;omega)
     simp only [go_sem,mr,bD,Ak,g1]
     refine ⟨by omega,?_⟩
     refine aq.bU [] hr (cH _ _ _) ⟨ct _,trivial⟩ ?_
     simp only [bL,bZ,bX,if_true]
     refine aK.go 1000 ?_
     cases q2:pC r
     ·have:=qL (by unfold pq;rw [q1,q2];rfl)
      subst this
      simp only [go_sem]
      refine aK.go 1000 ?_
      simp only [go_sem]
     ·simp only [go_sem,hw]
      refine ⟨⟨i+1,by omega,fun _=>j8 (by unfold pq;rw [q1,q2];rfl), .inr I2⟩,?_,by simp only;omega⟩
      simp only [go_sem,dF,eZ,ct]
   ·have Ak:¬ (es.length:Int)≤8:=by omega
    have hz:=hend fun h=>absurd h I2
    clear hend
    simp only [go_sem,mr,bD,Ak]
    refine aK.go 1000 ?_
    simp only [go_sem]
    refine aq.bU [] hS (cH _ _ _) ⟨dF _,trivial⟩ ?_
    simp only [bL,bZ,bX,if_true]
    refine aK.go 1000 ?_
    cases e1:lx g
    ·rw [e1] at hz
     rw [← hz]
     simp only [go_sem]
    ·simp only [go_sem]
     refine aq.bU [] hE (cH _ _ _) ⟨eZ _,trivial⟩ ?_
     simp only [bL,bZ,bX,if_true]
     refine aK.go 1000 ?_
     cases e2:oN es
     ·rw [e1,e2] at hz
      rw [← hz]
      simp only [go_sem]
     ·simp only [go_sem]
      refine aq.bU [] U6 (cH _ _ _) ⟨ct _,trivial⟩ ?_
      simp only [bL,bZ,bX,if_true]
      refine aK.go 1000 ?_
      cases e3:pC c
      ·rw [e1,e2,e3] at hz
       rw [← hz]
       simp only [go_sem]
      ·simp only [go_sem]
       refine aq.bU [] U7 (cH _ _ _) ⟨ct _,trivial⟩ ?_
       simp only [bL,bZ,bX,if_true]
       refine aK.go 1000 ?_
       rw [e1,e2,e3,cu,cu,cu] at hz
       rw [hz]
       simp only [go_sem]
  ·have dR:i=es.length:=by omega
   subst dR
   have hz:=hend fun h=>by rw [← aO h,aV];rfl
   simp only [go_sem,mr,bD]
   refine aK.go 1000 ?_
   simp only [go_sem]
   refine aq.bU [] hS (cH _ _ _) ⟨dF _,trivial⟩ ?_
   simp only [bL,bZ,bX,if_true]
   refine aK.go 1000 ?_
   cases e1:lx g
   ·rw [e1] at hz
    rw [← hz]
    simp only [go_sem]
   ·simp only [go_sem]
    refine aq.bU [] hE (cH _ _ _) ⟨eZ _,trivial⟩ ?_
    simp only [bL,bZ,bX,if_true]
    refine aK.go 1000 ?_
    cases e2:oN es
    ·rw [e1,e2] at hz
     rw [← hz]
     simp only [go_sem]
    ·simp only [go_sem]
     refine aq.bU [] U6 (cH _ _ _) ⟨ct _,trivial⟩ ?_
     simp only [bL,bZ,bX,if_true]
     refine aK.go 1000 ?_
     cases e3:pC c
     ·rw [e1,e2,e3] at hz
      rw [← hz]
      simp only [go_sem]
     ·simp only [go_sem]
      refine aq.bU [] U7 (cH _ _ _) ⟨ct _,trivial⟩ ?_
      simp only [bL,bZ,bX,if_true]
      refine aK.go 1000 ?_
      rw [e1,e2,e3,cu,cu,cu] at hz
      rw [hz]
      simp only [go_sem]
theorem Qq (g:List Sy) (es:List (List Li)) (c:List Li) (h:rf es c) :
  aJ Tryz.prog 11 [.ps 4 (syms g), .ps 1 (cP es), .ps 5 (lits c)] (.dy [.bool (decide ((gF g es c).1.gone≠0)), .int .i64 (gF g es c).2]):=by
 refine aJ.begin (rs:=[.tmp 6, .tmp 7]) (m:=18) 1000 Tryz.func11 rfl rfl rfl (by decide) ⟨trivial,trivial,trivial⟩ ?_
 have hF:=Iz g es c h
 generalize gF g es c=z at *
 obtain ⟨⟨d,u,gn,wh⟩,e⟩:=z
 unfold Si.aN at hF
 simp only [go_sem]
 refine aq.bU [] hF (cH _ _ _) ⟨dF _,eZ _,ct _,trivial⟩ ?_
 rw [jd];simp only [ite_self]
 refine aK.go 1000 ?_
 simp only [go_sem]
theorem Ys4:gF rY nN (im (il ij))=(⟨im ij,[0],0, -1⟩,0):=by kernel_rfl
theorem Yq4:gF rY (nN++[im (il gN)]) (im (il ij))=(⟨im ij,[0],0, -1⟩,0):=by kernel_rfl
theorem Yph:gF rY (nN++[im gN]) (im (il ij))=(⟨im ij,[0],2,1⟩,0):=by kernel_rfl
theorem SG:(il ij).fit:=by simp [il,ij,Tm.fit,Tm.fits,n8]
theorem TA (t:Tm) (h:t.size<100) (hf:t.fit):rf (nN++[im t]) (im (il ij)):=⟨by simp [nN],fun x hx=>by
 rcases aP.1 hx with rfl | hx
 ·exact Lx _ (by decide) SG
 ·rcases aX.1 hx with hx | hx
  ·exact OE x hx
  ·rw [aQ.1 hx];exact Lx t h hf⟩
set_option maxRecDepth 10000 in
theorem QQ:aJ Tryz.prog 12 [] (.bool true):=by
 refine aJ.begin (rs:=[.tmp 0]) (m:=106) 1000 Tryz.func12 rfl rfl rfl (by decide) trivial ?_
 have hv:=Ypk 0 (by omega)
 rw [show Tm.mk (-1 - 0) []=gN from rfl] at hv
 have vq:aJ Tryz.prog 43 [.int .i64 1, .ps 2 []] ij.aN:=Iy 1 []
 simp only [go_sem]
 refine aq.bU [] hv (by simp only [go_sem]) ⟨trivial,trivial⟩ ?_
 rw [jd];simp only [ite_self]
 refine aK.go 1000 ?_
 simp only [go_sem,fq]
 refine aq.bU [] vq (by simp only [go_sem]) ⟨trivial,trivial,trivial⟩ ?_
 rw [jd];simp only [ite_self]
 refine aK.go 1000 ?_
 simp only [go_sem,fq]
 refine aK.draw [.no,⟨some 2,[2],[]⟩,⟨none,[2],[]⟩,⟨none,[],[2]⟩, .no,⟨some 3,[3],[]⟩] 2 4 mixed rfl rfl (by decide) ?_
 simp only [go_sem,dA]
 have r0:gN.aN = .agg [.int .i64 gN.head, .ps 2 (List.map Tm.aN gN.args)]:=dc _
 have r1:ij.aN = .agg [.int .i64 ij.head, .ps 2 (List.map Tm.aN ij.args)]:=dc _
 refine y7 [2] (FD gN) ?_ ⟨trivial,⟨dE _,trivial⟩,trivial⟩ (by rw [y6];simp [fA,jM,among,eW]) ?_
 ·simp only [go_sem,qB,qC,r0]
 rw [y6]
 simp only [go_sem,fA,jM,qB,qC,a8,if_false,fq]
 refine aK.go 1000 ?_
 simp only [go_sem]
 refine aK.draw [⟨none,[],[4,5,6]⟩,⟨none,[],[5,6]⟩,⟨some 4,[4],[5,6]⟩,⟨none,[],[4,5,6]⟩,⟨none,[],[4,6]⟩,⟨some 5,[5],[4,6]⟩,⟨none,[5],[4,6]⟩,⟨none,[],[4,6]⟩,⟨none,[3,4],[6]⟩,⟨none,[],[6]⟩,⟨none,[],[6]⟩,⟨none,[],[6]⟩,⟨some 6,[6],[3,4,5]⟩,⟨none,[6],[]⟩] 4 7 mixed rfl rfl (by decide) ?_
 simp only [go_sem,dA]
 refine nQ KO (cH _ _ _) trivial ?_
 simp only [go_sem]
 refine y7 [5] (FD ij) ?_ ⟨trivial,⟨dE _,trivial⟩,trivial⟩ (by rw [y6];simp [fA,jM,among,eW]) ?_
 ·simp only [go_sem,qB,qC,r1]
 rw [y6]
 simp only [go_sem,fA,jM,qB,qC,a8,if_false,fq]
 refine nQ (D5 (il ij)) (cH _ _ _) ⟨dE _,trivial⟩ ?_
 simp only [go_sem]
 have hN:=Iz rY nN (im (il ij)) (Yv0 _ (by decide) SG)
 rw [Ys4] at hN
 have si:(⟨im ij,[0],0, -1⟩:Si).aN = .agg [.ps 5 (lits (im ij)), .ps 1 (ints [0]), .int .i64 0, .int .i64 (-1)]:=rfl
 simp only [si] at hN
 have U3:bL (.dy [.agg [.ps 5 (lits (im ij)), .ps 1 (ints [0]), .int .i64 0, .int .i64 (-1)], .int .i64 0])=false:=rfl
 have eU:cP nN=[.ps 5 [.agg [.bool false, .int .i64 (il gN).head, .ps 2 ((il gN).args.map Tm.aN), .int .i64 gN.head, .ps 2 (gN.args.map Tm.aN)]]]:=rfl
 refine y7 [3,4] hN ?_ ⟨dF _,eZ _,ct _,trivial⟩ (by rw [U3];simp [fA,jM,among,eW]) ?_
 ·simp only [go_sem,qB,qC,eU]
 rw [U3]
 simp only [go_sem,fA,jM,qB,qC,a8,if_false,fq]
 refine aK.go 1000 ?_
 simp only [go_sem]
 refine aK.draw [⟨none,[],[7,9]⟩,⟨none,[],[7,9]⟩,⟨none,[],[7,9]⟩,⟨none,[],[9]⟩,⟨some 7,[7],[9]⟩,⟨none,[7],[9]⟩,⟨none,[],[9]⟩,⟨some 8,[8],[9]⟩,⟨none,[],[7,8,9]⟩,⟨none,[],[7,8]⟩,⟨some 9,[9],[7,8]⟩,⟨none,[9],[8]⟩,⟨none,[],[8]⟩,⟨none,[3,8],[]⟩] 7 10 mixed rfl rfl (by decide) ?_
 simp only [go_sem,dA]
 refine nQ KO (cH _ _ _) trivial ?_
 simp only [go_sem]
 refine y7 [7] (FD gN) ?_ ⟨trivial,⟨dE _,trivial⟩,trivial⟩ (by rw [y6];simp [fA,jM,among,eW]) ?_
 ·simp only [go_sem,qB,qC,r0]
 rw [y6]
 simp only [go_sem,fA,jM,qB,qC,a8,if_false,fq]
 refine nQ (D5 (il gN)) (cH _ _ _) ⟨dE _,trivial⟩ ?_
 simp only [go_sem]
 refine y7 [9] (FD ij) ?_ ⟨trivial,⟨dE _,trivial⟩,trivial⟩ (by rw [y6];simp [fA,jM,among,eW]) ?_
 ·simp only [go_sem,qB,qC,r1]
 rw [y6]
 simp only [go_sem,fA,jM,qB,qC,a8,if_false,fq]
 refine nQ (D5 (il ij)) (cH _ _ _) ⟨dE _,trivial⟩ ?_
 simp only [go_sem]
 have hN2:aJ Tryz.prog 11 [.ps 4 (syms rY), .ps 1 (cP (nN++[im (il gN)])), .ps 5 (lits (im (il ij)))] (.dy [.bool false, .int .i64 0]):=by
  have:=Qq rY (nN++[im (il gN)]) (im (il ij)) (TA _ (by decide) FC.2.2.1)
  rw [Yq4] at this
  exact this
 have I0:∀ b:Bool,bL (.dy [.bool b, .int .i64 0])=true:=fun _=>rfl
 have eU2:cP (nN++[im (il gN)])=[.ps 5 [.agg [.bool false, .int .i64 (il gN).head, .ps 2 ((il gN).args.map Tm.aN), .int .i64 gN.head, .ps 2 (gN.args.map Tm.aN)]], .ps 5 (lits (im (il gN)))]:=rfl
 refine y7 [3,8] hN2 ?_ ⟨dF _,eZ _,ct _,trivial⟩ (by rw [I0,if_pos rfl];exact zK _ _ _) ?_
 ·simp only [go_sem,qB,qC,eU2]
 rw [I0,if_pos rfl,EX]
 simp only [go_sem]
 refine aK.go 1000 ?_
 simp only [go_sem]
 refine aK.draw [⟨none,[],[11]⟩,⟨none,[],[11]⟩,⟨none,[],[11]⟩,⟨none,[],[11]⟩,⟨none,[],[11]⟩,⟨some 10,[10],[11]⟩,⟨none,[],[10,11]⟩,⟨none,[],[10]⟩,⟨some 11,[11],[10]⟩,⟨none,[11],[10]⟩,⟨none,[],[10]⟩,⟨none,[3,10],[]⟩] 10 12 mixed rfl rfl (by decide) ?_
 simp only [go_sem,dA]
 refine nQ KO (cH _ _ _) trivial ?_
 simp only [go_sem]
 refine nQ (D5 gN) (by rw [r0];exact cH _ _ _) ⟨dE _,trivial⟩ ?_
 simp only [go_sem]
 refine y7 [11] (FD ij) ?_ ⟨trivial,⟨dE _,trivial⟩,trivial⟩ (by rw [y6];simp [fA,jM,among,eW]) ?_
 ·simp only [go_sem,qB,qC,r1]
 rw [y6]
 simp only [go_sem,fA,jM,qB,qC,a8,if_false,fq]
 refine nQ (D5 (il ij)) (cH _ _ _) ⟨dE _,trivial⟩ ?_
 simp only [go_sem]
 have hN3:aJ Tryz.prog 11 [.ps 4 (syms rY), .ps 1 (cP (nN++[im gN])), .ps 5 (lits (im (il ij)))] (.dy [.bool true, .int .i64 0]):=by
  have:=Qq rY (nN++[im gN]) (im (il ij)) (TA _ (by decide) FC.1)
  rw [Yph] at this
  exact this
 have eU3:cP (nN++[im gN])=[.ps 5 [.agg [.bool false, .int .i64 (il gN).head, .ps 2 ((il gN).args.map Tm.aN), .int .i64 gN.head, .ps 2 (gN.args.map Tm.aN)]], .ps 5 (lits (im gN))]:=rfl
 refine y7 [3,10] hN3 ?_ ⟨dF _,eZ _,ct _,trivial⟩ (by rw [I0,if_pos rfl];exact zK _ _ _) ?_
 ·simp only [go_sem,qB,qC,eU3]
 rw [I0,if_pos rfl,EX]
 simp only [go_sem]
 refine aK.go 1000 ?_
 simp only [go_sem]
 have ft:yU (im ij):=fun l hl=>by
  rw [aQ.1 hl];exact ⟨by decide,by decide⟩
 have hE:=Qz (im ij) (im ij) ft ft (by decide)
 rw [(Ii _ _).2 rfl] at hE
 have hI:=Yr6 [0] [0] (by decide)
 rw [decide_eq_true rfl] at hI
 refine aK.draw [.no, .no, .no, .no, .no, .no, .no, .no, .no, .no, .no,⟨none,[],[12]⟩,⟨none,[],[12]⟩,⟨some 12,[12],[]⟩] 12 13 mixed rfl rfl (by decide) ?_
 simp only [go_sem,dA]
 refine nQ (D5 ij) (by rw [r1];exact cH _ _ _) ⟨dE _,trivial⟩ ?_
 simp only [go_sem]
 refine nQ hE (cH _ _ _) ⟨ct _,ct _,trivial⟩ ?_
 simp only [go_sem]
 have U4:bL (.bool true)=true:=rfl
 refine y7 [12] hI ?_ ⟨dp _,dp _,trivial⟩ (by rw [U4,if_pos rfl];exact zK _ _ _) ?_
 ·have e0:ints [0]=[.int .i64 0]:=rfl
  simp only [go_sem,qB,qC,e0]
 rw [U4,if_pos rfl,EX]
 simp only [go_sem,beq_self_eq_true]
 refine aK.go 1000 ?_
 simp only [go_sem]
theorem Ykn {g:List Sy} {es:List (List Li)} {c:List Li} (h:r_ g es c=true):oN es=true∧pC c=true∧nS c=true∧(∀ r∈es,nS r=true∧pC r=true):=by
 unfold r_ at h
 split at h
 ·cases h
 ·rename_i hb
  simp only [aD] at h
  obtain ⟨⟨⟨h1,h2⟩,h3⟩,h4⟩:=h
  refine ⟨h2,h3,h4,fun r hr=>?_⟩
  have hn:¬ pq r=true:=fun k=>hb ⟨(Lu h2).1,er.2 ⟨r,hr,k⟩⟩
  unfold pq at hn
  simpa using hn
theorem Yxh {g:List Sy} {d:List Li} (hd:kN g d):kN g (w9 d):=by
 obtain ⟨h1,h2,h3⟩:=Ywa hd
 rw [h3];exact Yxn h1 hd h2
end Go.Proofs
namespace Go.Proofs
open Go Go.cV
section
variable {r:Int→Int} {p:Int→Prop}
end
end Go.Proofs
namespace Go.Proofs
open Go Go.cV
attribute [local go_sem] Nat.reduceAdd Nat.reduceSub Nat.reduceMul Nat.reduceLeDiff Nat.reduceEqDiff Nat.reduceBEq Nat.reduceLT Nat.le_refl Int.natCast_zero Nat.sub_zero List.length_map Int.toNat_natCast Int.natCast_one Int.reduceEq Int.reduceLT Int.reduceLE Int.reduceNe Int.sub_zero Int.zero_add Int.toNat_one
end Go.Proofs
namespace Go.Proofs
open Go Go.cV
def gH (P:Nat→Bool):List (List Li)→Nat→List (List Li)
 | [],_=>[]
 | c :: es,i=>if P i=true then c :: gH P es (i+1) else gH P es (i+1)
def kR (P:Nat→Bool) (k:Nat):Nat:=((List.range k).filter P).length
theorem Fm (P:Nat→Bool) (k:Nat):kR P (k+1)=kR P k+if P k=true then 1 else 0:=by
 unfold kR
 rw [List.range_succ,j9,ay]
 cases h:P k<;>simp [h]
def Un.to (P:Nat→Bool) (u:Un):Un:={ u with off:=(kR P u.off.toNat:Int) }
def w7 (P:Nat→Bool) (u:Un):Bool:=P u.off.toNat
theorem Ynz (P:Nat→Bool) (c:List Li) (i:Nat):rK c (kR P i)=(rK c i).map (Un.to P)∧∀ u∈rK c i,u.off.toNat=i:=by
 unfold rK
 split
 ·split
  ·exact ⟨rfl,fun u h=>by cases h⟩
  ·refine ⟨rfl,fun u h=>?_⟩
   simp only [aP,dO,or_false] at h
   rcases h with rfl | rfl<;>simp
 ·exact ⟨rfl,fun u h=>by cases h⟩
theorem Tl (P:Nat→Bool):∀ (es:List (List Li)) (i:Nat),j4 (gH P es i) (kR P i)=((j4 es i).filter (w7 P)).map (Un.to P)
 | [],_=>rfl
 | c :: es,i=>by
  have ih:=Tl P es (i+1)
  obtain ⟨h1,h2⟩:=Ynz P c i
  rw [Fm] at ih
  rw [gH,j4,j9,cN]
  cases h:P i
  ·rw [if_neg (by simp)]
   rw [h,if_neg (by simp)] at ih
   have:(rK c i).filter (w7 P)=[]:=by
    rw [List.filter_eq_nil_iff]
    intro u hu
    unfold w7;rw [h2 u hu,h];simp
   rw [this,aS,bf];exact ih
  ·rw [if_pos rfl]
   rw [h,if_pos rfl] at ih
   have:(rK c i).filter (w7 P)=rK c i:=by
    rw [List.filter_eq_self]
    intro u hu
    unfold w7;rw [h2 u hu,h]
   rw [this,j4,h1,ih]
theorem Zuj (P:Nat→Bool) (es:List (List Li)):cM (gH P es 0)=((cM es).filter (w7 P)).map (Un.to P):=by
 have h:=Tl P es 0
 rw [show kR P 0=0 from rfl] at h
 unfold cM
 rw [h,List.filter_map,List.filter_filter,List.filter_filter]
 congr 1
 exact List.filter_congr fun u _=>by rw [Bool.and_comm];rfl
theorem Ri {g:List Sy} {c:List Li} (P:Nat→Bool) (s:mG):∀ us:List Un,(∀ x,eN (TT g c) s us=some x→w7 P x.1=true)→eN (TT g c) s ((us.filter (w7 P)).map (Un.to P))=(eN (TT g c) s us).map fun x=>(x.1.to P,x.2)
 | [],_=>rfl
 | u :: us,h=>by
  rw [eN] at h ⊢
  cases hT:(TT g c u s).2 with
  | true =>
   rw [hT,if_pos rfl] at h
   have hp:=h _ rfl
   simp only at hp
   rw [List.filter_cons_of_pos hp,aI,eN,if_pos (by exact hT),if_pos rfl]
   rfl
  | false =>
   rw [hT,if_neg (by simp)] at h
   have ih:=Ri P s us h
   rw [if_neg (by simp)]
   cases hp:w7 P u
   ·rw [List.filter_cons_of_neg (by simp [hp])];exact ih
   ·rw [List.filter_cons_of_pos hp,aI,eN,if_neg (by show ¬ (TT g c u s).2=true;simp [hT])];exact ih
theorem Rv {g:List Sy} {c:List Li} (P:Nat→Bool) (us:List Un):∀ ss:List mG,(∀ x,gj (TT g c) us ss=some x→w7 P x.2.1=true)→gj (TT g c) ((us.filter (w7 P)).map (Un.to P)) ss=(gj (TT g c) us ss).map fun x=>(x.1,x.2.1.to P,x.2.2)
 | [],_=>rfl
 | s :: ss,h=>by
  rw [gj] at h
  rw [gj,gj,Ri P s us fun x hx=>by rw [hx] at h;exact h _ rfl]
  cases hU:eN (TT g c) s us with
  | some x=>rfl
  | none =>
   rw [hU] at h
   exact Rv P us ss h
theorem R1 {g:List Sy} {c:List Li} (P:Nat→Bool) (us:List Un) (h:(de g us c).2.2.2=0→(de g us c).2.2.1=true→P (de g us c).2.1.toNat=true) (h0:(de g us c).2.2.2=0) :
  de g ((us.filter (w7 P)).map (Un.to P)) c=if (de g us c).2.2.1=true then ((de g us c).1,(kR P (de g us c).2.1.toNat:Int),true,0) else (c, -1,false,0):=by
 unfold de kQ at h h0 ⊢
 have hf:=Rv (g:=g) (c:=c) P us (cG c 0) (fun x hx=>by
  rw [hx] at h h0
  simp only at h h0
  split at h0
  ·rename_i hc
   rw [if_pos hc] at h
   exact h rfl rfl
  ·rename_i hc;exact absurd h0 hc)
 rw [hf]
 cases hS:gj (TT g c) us (cG c 0) with
 | none=>rfl
 | some x =>
  rw [hS] at h0
  simp only [bw] at h0 ⊢
  split at h0
  ·rename_i hc
   rw [if_pos hc,if_pos hc];rfl
  ·rename_i hc;exact absurd h0 hc
theorem SY {g:List Sy} (P:Nat→Bool) (us:List Un):∀ (n:Nat) (c:List Li) (l l':List Int),l'.length=l.length→(∀ k∈(dM (de g us) n c l).2.1,P k.toNat=true)→(dM (de g us) n c l).2.2=0→l'=l.map (fun k=>(kR P k.toNat:Int)) →
  (∀ k∈l,k∈(dM (de g us) n c l).2.1)∧dM (de g ((us.filter (w7 P)).map (Un.to P))) n c l'=((dM (de g us) n c l).1,(dM (de g us) n c l).2.1.map (fun k=>(kR P k.toNat:Int)),0)
 | 0,c,l,l',_,_,h0,_=>by rw [dM] at h0;exact absurd h0 (by decide)
 | n+1,c,l,l',hl,hP,h0,e=>by
  rw [dM] at hP h0 ⊢
  by_cases h1:(de g us c).2.2.2=0
  ·rw [if_neg (by simp [h1])] at hP h0
   by_cases h2:(de g us c).2.2.1=false
   ·rw [if_pos h2] at hP h0
    rw [if_neg (by simp [h1]),if_pos h2]
    have hs:=R1 P us (fun _ k=>by rw [h2] at k;cases k) h1
    rw [if_neg (by simp [h2])] at hs
    refine ⟨fun k hk=>hk,?_⟩
    rw [dM,hs,e];rfl
   ·rw [if_neg h2] at hP h0
    rw [if_neg (by simp [h1]),if_neg h2]
    by_cases h3 : 200<l.length+1
    ·rw [if_pos h3] at h0;exact absurd h0 (by decide)
    ·rw [if_neg h3] at hP h0 ⊢
     obtain ⟨a1,a2⟩:=SY P us n (de g us c).1 (l++[(de g us c).2.1]) (l'++[(kR P (de g us c).2.1.toNat:Int)]) (by simp [hl]) hP h0 (by rw [e,cN];rfl)
     have hk:=hP _ (a1 (de g us c).2.1 (by simp))
     have hs:=R1 P us (fun _ _=>hk) h1
     rw [if_pos (by simpa using h2)] at hs
     refine ⟨fun k hk=>a1 k (by simp [hk]),?_⟩
     rw [dM,hs]
     simp only
     rw [if_neg (by simp),if_neg (by simp),if_neg (by rw [hl];exact h3)]
     exact a2
  ·rw [if_pos h1] at h0;exact absurd h0 h1
def sY (P:Nat→Bool) (k:Int):Int:=(kR P k.toNat:Int)
theorem Ykh (P:Nat→Bool) {j k:Nat} (h:j≤k):kR P j≤kR P k:=by
 induction h with
 | refl=>exact ah _
 | step _ ih=>rw [Fm];omega
theorem Pq (P:Nat→Bool) {j k:Nat} (h:j<k) (hj:P j=true):kR P j<kR P k:=by
 have:=Ykh P (show j+1≤k from h)
 rw [Fm,if_pos hj] at this
 omega
theorem Z4 (P:Nat→Bool) {j k:Int} (hj : 0≤j) (hk : 0≤k) (pj:P j.toNat=true) (pk:P k.toNat=true) (e:sY P j=sY P k):j=k:=by
 unfold sY at e
 rcases Nat.lt_trichotomy j.toNat k.toNat with h | h | h
 ·have:=Pq P h pj;omega
 ·omega
 ·have:=Pq P h pk;omega
theorem Up {d:List Li} (P:Nat→Bool):∀ (es:List (List Li)) (i:Nat),(∀ x,kX i es d=some x→P x.1=true)→kX (kR P i) (gH P es i) d=(kX i es d).map fun x=>(kR P x.1,x.2)
 | [],_,_=>rfl
 | c :: es,i,h=>by
  rw [kX] at h
  rw [gH,kX]
  by_cases hc:(mW c d).2.2=0∧(mW c d).2.1=true
  ·rw [if_pos hc] at h
   have hp:=h _ rfl
   simp only at hp
   rw [if_pos hc,if_pos hp,kX,if_pos hc];rfl
  ·rw [if_neg hc] at h
   have ih:=Up P es (i+1) h
   rw [Fm] at ih
   rw [if_neg hc]
   cases hp:P i
   ·rw [if_neg (by simp)]
    rw [hp,if_neg (by simp)] at ih
    exact ih
   ·rw [if_pos rfl,kX,if_neg hc]
    rw [hp,if_pos rfl] at ih
    exact ih
theorem IE {P:Nat→Bool} {x:List Li}:∀ {es:List (List Li)} {i:Nat},x∈gH P es i→x∈es
 | [],_,h=>by rw [gH] at h;cases h
 | c :: es,i,h=>by
  rw [gH] at h
  split at h
  ·rcases aP.1 h with rfl | h
   ·simp
   ·exact cq _ (IE h)
  ·exact cq _ (IE h)
theorem Lq {P:Nat→Bool}:∀ (es:List (List Li)) (i:Nat),(gH P es i).length≤es.length
 | [],_=>ah _
 | c :: es,i=>by
  rw [gH]
  have:=Lq (P:=P) es (i+1)
  split<;>simp only [au]<;>omega
theorem SH {g:List Sy}:∀ {l:List (List Li)},(∀ x∈l,a_ g x=0)→cB g l=0
 | [],_=>rfl
 | c :: l,h=>by rw [cB,if_neg (by simp [h c (by simp)])];exact SH fun x hx=>h x (by simp [hx])
theorem PB {g:List Sy} {es:List (List Li)} {c:List Li} (P:Nat→Bool) (h:rf es c) (hw:cB g (c :: es)=0):rf (gH P es 0) c∧cB g (c :: gH P es 0)=0:=by
 have hz:=B_ hw
 have hl:=Lq (P:=P) es 0
 refine ⟨⟨by have:=h.1;omega,fun x hx=>?_⟩,SH fun x hx=>?_⟩
 ·rcases aP.1 hx with rfl | hx
  ·exact h.2 x (by simp)
  ·exact h.2 x (by simp [IE hx])
 ·rcases aP.1 hx with rfl | hx
  ·exact hz x (by simp)
  ·exact hz x (by simp [IE hx])
theorem Xe {g:List Sy} {es:List (List Li)} {d:List Li} (P:Nat→Bool) (h:rf es d) (hw:cB g (d :: es)=0) (h0:(cx g es d).2.2=0) (hP:∀ k∈(cx g es d).2.1,P k.toNat=true) :
  cx g (gH P es 0) d=((cx g es d).1,(cx g es d).2.1.map (sY P),0):=by
 obtain ⟨_,re⟩:=PB P h hw
 have e1:∀ pX,cB g (d :: pX)=0→cx g pX d=dM (de g (cM pX)) 201 d []:=fun pX h=>by unfold cx fQ;exact if_neg (fun k=>k h)
 rw [e1 _ hw] at h0 hP ⊢
 rw [e1 _ re,Zuj]
 exact (SY P (cM es) 201 d [] [] rfl hP h0 rfl).2
structure tC (P:Nat→Bool) (W V:Wk):Prop where
 d:V.d=W.d
 u:V.u=W.u.map (sY P)
 e:V.e=W.e
theorem Ts {P:Nat→Bool} {W V:Wk} {k:Int} (h:tC P W V) (hk : 0≤k∧P k.toNat=true) (hW:∀ j∈W.u,0≤j∧P j.toNat=true):tC P (jz k W) (jz (sY P k) V):=by
 have hm:sY P k∈V.u↔k∈W.u:=by
  rw [h.u,bW]
  exact ⟨fun ⟨j,hj,e⟩=>by rw [← Z4 P (hW j hj).1 hk.1 (hW j hj).2 hk.2 e];exact hj,fun hk=>⟨k,hk,rfl⟩⟩
 unfold jz
 by_cases c:k∈W.u
 ·rw [if_pos c,if_pos (hm.2 c)];exact h
 ·rw [if_neg c,if_neg (fun x=>c (hm.1 x))]
  exact ⟨h.d,by simp [h.u],h.e⟩
theorem Tg {P:Nat→Bool}:∀ {l:List Int} {W V:Wk},tC P W V→(∀ k∈l,0≤k∧P k.toNat=true)→(∀ j∈W.u,0≤j∧P j.toNat=true)→tC P (gf l W) (gf (l.map (sY P)) V)
 | [],W,V,h,_,_=>h
 | k :: l,W,V,h,hl,hW=>by
  rw [aI,gf,gf]
  refine Tg (Ts h (hl k (by simp)) hW) (fun j hj=>hl j (by simp [hj])) fun j hj=>?_
  rcases Fk.1 hj with hj | rfl
  ·exact hW j hj
  ·exact hl j (by simp)
theorem S3 {g:List Sy} {es:List (List Li)} {W:Wk} {k:Int} (hk:k∈W.u):k∈(dB (cQ g es) W).2.u:=by
 rcases DU g es W with ⟨_,e⟩ | ⟨_,_,e⟩ | ⟨_,h2,h3,e⟩ | ⟨_,h2,h3,x,h4,e⟩ | ⟨_,_,_,_,_,_,e⟩ | ⟨_,_,_,_,_,e⟩<;>rw [e]
 ·exact hk
 ·exact hk
 ·exact HU.2 (.inl hk)
 ·exact Fk.2 (.inl hk)
 ·exact hk
 ·exact hk
theorem HJ {g:List Sy} {es:List (List Li)} {k:Int}:∀ (n:Nat) (W:Wk),k∈W.u→k∈(iY g es n W).u
 | 0,W,h=>h
 | n+1,W,h=>by
  rw [iY]
  split
  ·exact HJ n _ (S3 h)
  ·exact S3 h
theorem KU {g:List Sy} {es:List (List Li)} {c:List Li} (h:rf es c) (hw:cB g (c :: es)=0) (P:Nat→Bool):∀ (n:Nat) (W V:Wk),IW g es n W→tC P W V→(∀ k∈(iY g es n W).u,P k.toNat=true)→(iY g es n W).e=0 →
  tC P (iY g es n W) (iY g (gH P es 0) n V)∧((iY g es n W).gone=1→(iY g (gH P es 0) n V).gone=1)
 | 0,W,V,hI,_,_,_=>absurd hI.mu (by omega)
 | n+1,W,V,hI,hS,hP,he=>by
  obtain ⟨fh,BO⟩:=LM h hw hI.rt
  have Vj:∀ j∈W.u,0≤j∧P j.toNat=true:=fun j hj=>⟨(hI.rows j hj).1,hP j (HJ (n+1) W hj)⟩
  have xw:=Lv h hw hI
  have uu:=DU g (gH P es 0) V
  have Ml:=fun h0=>Xe P fh BO h0
  have Mf:=Up (d:=W.d) P es 0
  rw [hS.d] at uu
  rw [iY] at hP he
  rw [iY,iY]
  rw [show kR P 0=0 from rfl] at Mf
  rcases DU g es W with ⟨q1,e⟩ | ⟨q1,q2,e⟩ | ⟨q1,q2,q3,e⟩ | ⟨q1,q2,q3,x,q4,e⟩ | ⟨q1,q2,q3,q4,k,q5,e⟩ | ⟨q1,q2,q3,q4,q5,e⟩<;>rw [e] at hP he xw ⊢
  ·rcases uu with ⟨s1,se⟩ | ⟨s1,_⟩ | ⟨s1,_⟩ | ⟨s1,_⟩ | ⟨s1,_⟩ | ⟨s1,_⟩
   ·rw [se]
    simp only [if_neg (show ¬ (2:Int)=1 by decide)] at hP he ⊢
    exact ⟨⟨rfl,hS.u,hS.e⟩,fun _=>trivial⟩
   all_goals rw [q1] at s1;cases s1
  ·simp only [if_neg (show ¬ (2:Int)=1 by decide)] at he
   exact absurd he q2
  ·simp only [if_true] at hP he xw ⊢
   have hl:∀ k∈(cx g es W.d).2.1,0≤k∧P k.toNat=true:=fun k hk=>⟨(Sg k hk).1,hP k (HJ n _ (HU.2 (.inr hk)))⟩
   have hN:=Ml q2 fun k hk=>(hl k hk).2
   rw [hN] at uu
   have Am:tC P { W with d:=ia (cx g es W.d).1 } { V with d:=ia (cx g es W.d).1 }:=⟨rfl,hS.u,hS.e⟩
   rcases uu with ⟨s1,_⟩ | ⟨_,s2,_⟩ | ⟨_,_,_,se⟩ | ⟨_,_,s3,_⟩ | ⟨_,_,s3,_⟩ | ⟨_,_,s3,_⟩
   ·rw [q1] at s1;cases s1
   ·exact absurd rfl s2
   ·rw [se]
    simp only [if_true]
    exact KU h hw P n _ _ (xw trivial) (Tg Am hl Vj) hP he
   all_goals
    simp only [List.map_eq_nil_iff] at s3
    exact absurd s3 q3
  ·simp only [if_true] at hP he xw ⊢
   have hN:=Ml q2 (fun k hk=>by rw [q3] at hk;cases hk)
   rw [q3,aS] at hN
   have hx : 0≤(x.1:Int)∧P (x.1:Int).toNat=true:=⟨by omega,hP _ (HJ n _ (Fk.2 (.inr rfl)))⟩
   have hC:=Mf fun y hy=>by rw [q4] at hy;cases hy;simpa using hx.2
   rw [q4,bw] at hC
   rw [hN,hC] at uu
   have Am:tC P { W with d:=W.d.eraseIdx x.2 } { V with d:=W.d.eraseIdx x.2 }:=⟨rfl,hS.u,hS.e⟩
   rcases uu with ⟨s1,_⟩ | ⟨_,s2,_⟩ | ⟨_,_,s3,_⟩ | ⟨_,_,_,y,s4,se⟩ | ⟨_,_,_,s4,_⟩ | ⟨_,_,_,s4,_⟩
   ·rw [q1] at s1;cases s1
   ·exact absurd rfl s2
   ·exact absurd rfl s3
   ·cases s4
    rw [se]
    simp only [if_true]
    have:=Ts Am hx Vj
    exact KU h hw P n _ _ (xw trivial) this hP he
   ·cases s4
   ·cases s4
  all_goals
   simp only [if_neg (show ¬ (2:Int)=1 by decide),if_neg (show ¬ (0:Int)=1 by decide)] at hP he ⊢
   have hN:=Ml q2 (fun k hk=>by rw [q3] at hk;cases hk)
   rw [q3,aS] at hN
   have hC:=Mf fun y hy=>by rw [q4] at hy;cases hy
   rw [q4,j7] at hC
   rw [hN,hC] at uu
   rcases uu with ⟨s1,_⟩ | ⟨_,s2,_⟩ | ⟨_,_,s3,_⟩ | ⟨_,_,_,y,s4,se⟩ | ⟨_,_,_,_,k',_,se⟩ | ⟨_,_,_,_,_,se⟩
   ·rw [q1] at s1;cases s1
   ·exact absurd rfl s2
   ·exact absurd rfl s3
   ·cases s4
   ·rw [se]
    simp only [if_neg (show ¬ (2:Int)=1 by decide)]
    exact ⟨⟨rfl,hS.u,hS.e⟩,fun h=>by first | (rw [hI.gone] at h;cases h) | cases h⟩
   ·rw [se]
    simp only [if_neg (show ¬ (0:Int)=1 by decide)]
    exact ⟨⟨hS.d,hS.u,hS.e⟩,fun h=>by first | (rw [hI.gone] at h;cases h) | cases h⟩
theorem Kz:∀ (a b:List Int),a.Nodup→(∀ x∈a,x∈b)→a.length≤b.length
 | [],_,_,_=>av _
 | x :: a,b,hn,h=>by
  rw [eh] at hn
  have hx:=h x (by simp)
  have ih:=Kz a (b.erase x) hn.2 fun y hy=>by
   have dX:y≠x:=fun e=>hn.1 (e ▸ hy)
   exact (List.mem_erase_of_ne dX).2 (h y (by simp [hy]))
  have:=List.length_erase_of_mem hx
  have:=pa hx
  simp only [au];omega
theorem Ytl {g:List Sy} {es:List (List Li)} {W:Wk} (h:(dB (cQ g es) W).1≠1):(dB (cQ g es) W).2.u=W.u:=by
 rcases DU g es W with ⟨_,e⟩ | ⟨_,_,e⟩ | ⟨_,h2,h3,e⟩ | ⟨_,h2,h3,x,h4,e⟩ | ⟨_,_,_,_,k,_,e⟩ | ⟨_,_,_,_,_,e⟩
 ·rw [e]
 ·rw [e]
 ·rw [e] at h;exact absurd rfl h
 ·rw [e] at h;exact absurd rfl h
 ·rw [e]
 ·rw [e]
theorem Oe {P:Nat→Bool}:∀ (es:List (List Li)) (i:Nat),kR P i+(gH P es i).length=kR P (i+es.length)
 | [],_=>rfl
 | c :: es,i=>by
  have ih:=Oe (P:=P) es (i+1)
  rw [Fm] at ih
  rw [gH,au,show i+(es.length+1)=i+1+es.length by omega,← ih]
  cases h:P i
  ·rw [if_neg (by simp),if_neg (by simp)];omega
  ·rw [if_pos rfl,if_pos rfl,au];omega
def ib (u:List Int) (k:Nat):Bool:=decide ((k:Int)∈u)
theorem Yis {es:List (List Li)} {u:List Int} (hn:u.Nodup) (hr:∀ k∈u,0≤k∧k<es.length):(gH (ib u) es 0).length=u.length:=by
 have h:=Oe (P:=ib u) es 0
 rw [show kR (ib u) 0=0 from rfl,bm,bm] at h
 rw [h]
 unfold kR
 have h1:(((List.range es.length).filter (ib u)).map fun (k:Nat)=>(k:Int)).length≤u.length:=Kz _ _ (by
  refine List.Pairwise.map _ (fun a b (CS:a≠b) e=>CS (by omega)) ?_
  exact (List.nodup_range).filter _) fun x hx=>by
  obtain ⟨k,hk,rfl⟩:=bW.1 hx
  have:=(lZ.1 hk).2
  unfold ib at this
  simpa using this
 have h2:u.length≤(((List.range es.length).filter (ib u)).map fun (k:Nat)=>(k:Int)).length:=Kz _ _ hn fun x hx=>by
  have hr:=hr x hx
  rw [bW]
  refine ⟨x.toNat,lZ.2 ⟨by simp;omega,?_⟩,by omega⟩
  unfold ib
  rw [Int.toNat_of_nonneg hr.1]
  simpa using hx
 rw [ao] at h1 h2
 omega
theorem Yy5 {W:Wk} (h:(qH W).2=0):W.e=0∧qH W=(⟨(kJ W.d).1,W.u,W.gone,W.sy⟩,0)∧(kJ W.d).2=0:=by
 unfold qH at h ⊢
 by_cases h1:W.e=0
 ·rw [if_neg (by simp [h1])] at h ⊢
  by_cases h2:(kJ W.d).2=0
  ·rw [if_neg (by simp [h2])];exact ⟨h1,rfl,h2⟩
  ·rw [if_pos h2] at h;exact absurd h h2
 ·rw [if_pos h1] at h;exact absurd h h1
theorem ZN {g:List Sy} {es:List (List Li)} {c:List Li} (h:rf es c) (h0:(gF g es c).2=0):rf (gH (ib (gF g es c).1.u) es 0) c∧(gF g (gH (ib (gF g es c).1.u) es 0) c).2=0 ∧
  (gH (ib (gF g es c).1.u) es 0).length=(gF g es c).1.u.length∧(gF g (gH (ib (gF g es c).1.u) es 0) c).1.u.length=(gF g es c).1.u.length∧(gF g (gH (ib (gF g es c).1.u) es 0) c).1.d=(gF g es c).1.d ∧
  ((gF g es c).1.gone=1→(gF g (gH (ib (gF g es c).1.u) es 0) c).1.gone=1)∧yU (gF g es c).1.d∧(gF g es c).1.d.length≤32∧(∀ k∈(gF g es c).1.u,0≤k∧k<es.length):=by
 have hw:cB g (c :: es)=0:=by
  by_cases hw:cB g (c :: es)=0
  ·exact hw
  ·unfold gF at h0;rw [if_pos hw] at h0;exact absurd h0 hw
 have hF:gF g es c=qH (iY g es 70 (qu c)):=by unfold gF;rw [if_neg (by simp [hw])]
 obtain ⟨n,X,hI,h1,e⟩:=T6 h hw 70 (qu c) (B6 h hw)
 rw [hF] at h0
 obtain ⟨he,hE,hn⟩:=Yy5 h0
 rw [hF,hE]
 simp only
 have hu:(iY g es 70 (qu c)).u=X.u:=by rw [e,Ytl h1]
 have hd:(iY g es 70 (qu c)).d=X.d:=by rw [e,Pn h1]
 have hr:∀ k∈(iY g es 70 (qu c)).u,0≤k∧k<es.length:=by rw [hu];exact hI.rows
 have hP:∀ k∈(iY g es 70 (qu c)).u,ib (iY g es 70 (qu c)).u k.toNat=true:=fun k hk=>by
  unfold ib
  rw [Int.toNat_of_nonneg (hr k hk).1]
  simpa using hk
 obtain ⟨hS,hg⟩:=KU h hw (ib (iY g es 70 (qu c)).u) 70 (qu c) (qu c) (B6 h hw) ⟨rfl,rfl,rfl⟩ hP he
 obtain ⟨o1,o2⟩:=PB (ib (iY g es 70 (qu c)).u) h hw
 have hlen:=Yis (es:=es) (u:=(iY g es 70 (qu c)).u) (by rw [hu];exact hI.nodup) hr
 have ft:=Yow (Yxh hI.rt)
 have VD:=ZY hI.rt
 rw [hd,VD]
 simp only
 generalize ib (iY g es 70 (qu c)).u=P at *
 have hG:gF g (gH P es 0) c=(⟨w9 X.d,(iY g es 70 (qu c)).u.map (sY P),(iY g (gH P es 0) 70 (qu c)).gone,(iY g (gH P es 0) 70 (qu c)).sy⟩,0):=by
  unfold gF
  rw [if_neg (by simp [o2])]
  unfold qH
  rw [hS.e,he,hS.d,hd,VD,hS.u]
  rfl
 rw [hG]
 exact ⟨o1,rfl,hlen,by simp,rfl,hg,ft.1,ft.2,hr⟩
end Go.Proofs
namespace Go.Proofs
open Go Go.cV
attribute [local go_sem] Nat.reduceAdd Nat.reduceSub Nat.reduceMul Nat.reduceLeDiff Nat.reduceEqDiff Nat.reduceBEq Nat.reduceLT Nat.le_refl Int.natCast_zero Nat.sub_zero List.length_map Int.toNat_natCast Int.natCast_one Int.reduceEq Int.reduceLT Int.reduceLE Int.reduceNe Int.sub_zero Int.zero_add Int.toNat_one
theorem Yl8 {P:Nat→Bool} {es:List (List Li)} {i:Nat} (h:i<es.length):gH P (es.drop i) i=if P i=true then es[i] :: gH P (es.drop (i+1)) (i+1) else gH P (es.drop (i+1)) (i+1):=by
 rw [ak h,gH]
set_option maxHeartbeats 1000000 in
theorem Zja (g:List Sy) (es:List (List Li)) (c:List Li) (f1:∀ x∈es,pE x) (f2:pE c) (gK:c.length≤2600000000000) {W:World} {vs:Array Value}
  (h2:vs.size=([.ps 4 (syms g), .ps 1 (cP es), .ps 5 (lits c)]:List ae).length)
  (h3:∀ k,k<([.ps 4 (syms g), .ps 1 (cP es), .ps 5 (lits c)]:List ae).length→bR W rJ sr (vs.getD k undef) (([.ps 4 (syms g), .ps 1 (cP es), .ps 5 (lits c)]:List ae).getD k .undef)) :
  Calls Tryz.prog 6 vs W fun e w'=>e = .returned (.bool true)∧RowKit.Below W.heap.size W w':=by
 refine Zzd (args:=[.ps 4 (syms g), .ps 1 (cP es), .ps 5 (lits c)]) (rs:=[.tmp 6]) (m:=87) 1000 Tryz.func6 rfl rfl rfl rfl ?_ (fun x hx=>by cases hx) h2 h3
 clear h2 h3
 simp only [go_sem]
 refine aq.bU [] (ZL g es c gK) (cH _ _ _) (by simp [go_sem,dF,eZ,ct]) ?_;simp only [bL,bZ,bX,if_true];refine aK.go 1000 ?_
 cases MO:r_ g es c with
 | false=>simp only [go_sem]
 | true =>
 obtain ⟨he,hc,ami,hr⟩:=Ykn MO
 have fh:=Ytg he hc f1 f2
 have hle:=(Lu he).1
 have hF:=Iz g es c fh
 have wc:=ZN (g:=g) fh
 have CN:=Iz g (gH (ib (gF g es c).1.u) es 0) c
 generalize gF g es c=z at *
 obtain ⟨⟨d,u,gn,wh⟩,e⟩:=z
 unfold Si.aN at hF
 simp only at wc CN
 simp only [go_sem]
 refine aq.bU [] hF (cH _ _ _) ⟨dF _,eZ _,ct _,trivial⟩ ?_
 rw [jd];simp only [ite_self]
 refine aK.go 1000 ?_
 by_cases h0:e=0
 case neg =>
  simp only [go_sem,h0]
  refine aq.bU [] (QQ) (cH _ _ _) (by simp [go_sem, ]) ?_;simp only [bL,bZ,bX,if_true];refine aK.go 1000 ?_
  simp only [go_sem]
 subst h0
 obtain ⟨i1,i2,i3,i4,i5,i6,i7,i8,i9⟩:=wc rfl
 have CN:=CN i1
 have hE:=Qz d d i7 i7 (by omega)
 rw [(Ii _ _).2 rfl] at hE
 obtain ⟨O,hO⟩:∃ O,gH (ib u) es 0=O:=⟨_,rfl⟩
 rw [hO] at CN i2 i3 i4 i5 i6
 have hol:O.length≤8:=by rw [← hO];have:=Lq (P:=ib u) es 0;omega
 generalize gF g O c=y at *
 obtain ⟨⟨d2,u2,gn2,wh2⟩,e2⟩:=y
 simp only at i2 i4 i5 i6
 subst i2 i5
 unfold Si.aN at CN
 simp only at CN
 have wb:u.length≤8:=by omega
 simp only [go_sem]
 refine aK.gS (ι:={q:Nat×List (List Li) // q.1≤es.length∧q.2++gH (ib u) (es.drop q.1) q.1=O}) 1000 (fun q=>fD 90 [(0, .ps 4 (syms g)),(1, .ps 1 (cP es)),(2, .ps 5 (lits c)),(6, .bool false),(7, .ptr 0 0),(9,ja 1 1 (cP q.1.2)),(10, .int .i64 q.1.1)])
  (fun q=>[some (.var [.ps 5 (lits d2), .ps 1 (ints u), .int .i64 gn, .int .i64 wh]),eJ (cP q.1.2)]) (fun q=>es.length - q.1.1) ⟨(0,[]),av _,by simpa using hO⟩ [] ?_ (fun _=>av _) ?_
 ·refine iF rfl ?_
  simp only [go_sem,dF,eZ,ct,dp,cz (dF _),cz (eZ _),cz (ct _),cz (dp _),show cP []=[] from rfl,tK,td]
 ·rintro ⟨⟨i,L⟩,hi,aO⟩
  simp only at hi aO
  by_cases bD:(i:Int)<es.length
  ·have aZ:i<es.length:=by omega
   have hw:IntKind.i64.wrap ((i:Int)+1)=((i+1:Nat):Int):=by rw [ep (by omega)];omega
   have g1:=y_ aZ
   have hIn:=Yzr (i:Int) u (by omega)
   rw [Yl8 aZ] at aO
   have GR:ib u i=decide ((i:Int)∈u):=rfl
   generalize es[i]=r at *
   have hLl:L.length≤8:=by have:=congrArg List.length aO;rw [ay] at this;omega
   simp only [go_sem,mr,bD]
   refine aq.bU [] hIn (cH _ _ _) ⟨trivial,dp _,trivial⟩ ?_
   simp only [bL,bZ,bX,if_true]
   refine aK.go 1000 ?_
   by_cases hm:(i:Int)∈u
   ·rw [GR,decide_eq_true hm,if_pos rfl] at aO
    have h2:bF [some (.var [.ps 5 (lits d2), .ps 1 (ints u), .int .i64 gn, .int .i64 wh]),eJ (cP L),some (.row [.ps 5 (lits r)] 0)] 1=eJ (cP L):=rfl
    have m8:=Jt r
    simp only [go_sem,hm,mr,bD,g1,uQ h2,m8,hw]
    have MF:cP (L++[r])=cP L++[.ps 5 (lits r)]:=by simp [cP]
    have lw:bx 0 (cP (L++[r])):=eZ _
    refine ⟨by omega,by omega,⟨(i+1,L++[r]),by simp only;omega,by simp only;rw [← aO];simp⟩,[(1,3),(3,1)],iF rfl ?_,by simp only;omega⟩
    dsimp only
    rw [MF] at lw ⊢
    rw [u_ (by simp),u9 (by simp)]
    simp only [go_sem,dF,eZ,ct,dp,cz (dF _),cz (eZ _),cz (ct _),cz (dp _),cz lw,ie (av 2) lw,mr,au,aR]
   ·rw [GR,decide_eq_false hm,if_neg (by simp)] at aO
    simp only [go_sem,hm,hw]
    refine ⟨⟨(i+1,L),by simp only;omega,aO⟩,[],iF rfl ?_,by simp only;omega⟩
    simp only [go_sem,dF,eZ,ct,dp,cz (dF _),cz (eZ _),cz (ct _),cz (dp _)]
  ·have dR:i=es.length:=by omega
   subst dR
   rw [aV,gH,bn] at aO
   subst aO
   simp only [go_sem,mr,bD]
   refine aK.go 1000 ?_
   simp only [go_sem]
   refine aq.bU [1] CN ?_ ⟨dF _,eZ _,ct _,trivial⟩ ?_
   ·simp only [go_sem,qB,qC,rN]
   obtain ⟨S2,hS2⟩:∃ S2,(if bL (.dy [.agg [.ps 5 (lits d2), .ps 1 (ints u2), .int .i64 gn2, .int .i64 wh2], .int .i64 0])=true then [some (.var [.ps 5 (lits d2), .ps 1 (ints u), .int .i64 gn, .int .i64 wh]),eJ (cP L)] else fA (among [1]) 0 [some (.var [.ps 5 (lits d2), .ps 1 (ints u), .int .i64 gn, .int .i64 wh]),eJ (cP L)])=[some (.var [.ps 5 (lits d2), .ps 1 (ints u), .int .i64 gn, .int .i64 wh]),S2]:=by
    split
    ·exact ⟨_,rfl⟩
    ·exact ⟨_,rfl⟩
   rw [hS2]
   have e3:(L.length:Int)=u.length:=by omega
   have e4:(u2.length:Int)=L.length:=by omega
   refine aK.go 1000 ?_
   simp only [go_sem]
   refine aq.bU [] (QQ) (cH _ _ _) (by simp [go_sem, ]) ?_;simp only [bL,bZ,bX,if_true];refine aK.go 1000 ?_
   simp only [go_sem,UA,mr,kV,i3,i4,beq_self_eq_true]
   refine aq.bU [] (hE) (cH _ _ _) (by simp [go_sem,ct]) ?_;simp only [bL,bZ,bX,if_true];refine aK.go 1000 ?_
   by_cases hg:gn=1
   ·have ui:=i6 hg
    simp only [go_sem,hg,ui]
   ·simp only [go_sem,hg]
end Go.Proofs
