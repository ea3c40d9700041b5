/- Part 35 of what the claim rests on. -/
import Derived.Test.YtfjbdamcmiglgaaGreatOwn34
set_option linter.all false
namespace Go.dq
open Go
mutual
theorem PH (π ρ:Nat->Nat):∀a:ah,ez π (ez ρ a)=ez (λb=>π (ρ b)) a
 |.ptr b _=>rfl
 |.rp b _ _=>rfl
 |.os b _ _ _=>rfl
 |.oc b _ _ _ _=>rfl
 |.jL=>rfl
 |.ni b=>rfl
 |.map b=>rfl
 |.it b=>rfl
 |.pp cs=>by simp only[ez];rw[BI π ρ cs]
 |.ps _ es=>by simp only[ez];rw[BI π ρ es]
 |.fn _ a c=>by simp only[ez];rw[BI π ρ a,BI π ρ c]
 |.pm ks vs=>by simp only[ez];rw[BI π ρ ks,BI π ρ vs]
 |.agg cs=>by simp only[ez];rw[BI π ρ cs]
 |.dw cs=>by simp only[ez];rw[BI π ρ cs]
 |.iface _ v=>by simp only[ez];rw[PH π ρ v]
 |.undef=>rfl
 |.bool _=>rfl
 |.int _ _=>rfl
 |.str _=>rfl
 |.gJ=>rfl
 |.a8=>rfl
 |.fU=>rfl
 |.dj=>rfl
 |.jv=>rfl
 |.qf _=>rfl
theorem BI (π ρ:Nat->Nat):∀l:List ah,eC π (eC ρ l)=eC (λb=>π (ρ b)) l
 |[]=>rfl
 |a :: cI=>by simp only[eC];rw[PH π ρ a,BI π ρ cI]
end
mutual
theorem Yf (π ρ:Nat->Nat)(n:Nat)(h:∀b,b<n->π b = ρ b):∀a:ah,a.low n->ez π a=ez ρ a
 |.ptr b _,k=>by simp only[ez];rw[h b k]
 |.rp b _ _,k=>by simp only[ez];rw[h b k]
 |.os b _ _ _,k=>by simp only[ez];rw[h b k]
 |.oc b _ _ _ _,k=>by simp only[ez];rw[h b k]
 |.jL,_=>rfl
 |.ni b,k=>by simp only[ez];rw[h b k]
 |.map b,k=>by simp only[ez];rw[h b k]
 |.it b,k=>by simp only[ez];rw[h b k]
 |.pp cs,k=>by simp only[ez];rw[xd π ρ n h cs k]
 |.ps _ es,k=>by simp only[ez];rw[xd π ρ n h es k]
 |.fn _ a c,k=>by simp only[ez];rw[xd π ρ n h a k.1,xd π ρ n h c k.2]
 |.pm ks vs,k=>by simp only[ez];rw[xd π ρ n h ks k.1,xd π ρ n h vs k.2]
 |.agg cs,k=>by simp only[ez];rw[xd π ρ n h cs k]
 |.dw cs,k=>by simp only[ez];rw[xd π ρ n h cs k]
 |.iface _ v,k=>by simp only[ez];rw[Yf π ρ n h v k]
 |.undef,_=>rfl
 |.bool _,_=>rfl
 |.int _ _,_=>rfl
 |.str _,_=>rfl
 |.gJ,_=>rfl
 |.a8,_=>rfl
 |.fU,_=>rfl
 |.dj,_=>rfl
 |.jv,_=>rfl
 |.qf _,_=>rfl
theorem xd (π ρ:Nat->Nat)(n:Nat)(h:∀b,b<n->π b = ρ b):∀l:List ah,bG n l->eC π l=eC ρ l
 |[],_=>rfl
 |a :: cI,k=>by simp only[eC];rw[Yf π ρ n h a k.1,xd π ρ n h cI k.2]
end
mutual
theorem PU (π:Nat->Nat)(n m:Nat)(h:∀b,b<n->π b<m):∀a:ah,a.low n->(ez π a).low m
 |.ptr b _,k=>h b k
 |.rp b _ _,k=>h b k
 |.os b _ _ _,k=>h b k
 |.oc b _ _ _ _,k=>h b k
 |.jL,_=>trivial
 |.ni b,k=>h b k
 |.map b,k=>h b k
 |.it b,k=>h b k
 |.pp cs,k=>xg π n m h cs k
 |.ps _ es,k=>xg π n m h es k
 |.fn _ a c,k=>⟨xg π n m h a k.1,xg π n m h c k.2⟩
 |.pm ks vs,k=>⟨xg π n m h ks k.1,xg π n m h vs k.2⟩
 |.agg cs,k=>xg π n m h cs k
 |.dw cs,k=>xg π n m h cs k
 |.iface _ v,k=>PU π n m h v k
 |.undef,_=>trivial
 |.bool _,_=>trivial
 |.int _ _,_=>trivial
 |.str _,_=>trivial
 |.gJ,_=>trivial
 |.a8,_=>trivial
 |.fU,_=>trivial
 |.dj,_=>trivial
 |.jv,_=>trivial
 |.qf _,_=>trivial
theorem xg (π:Nat->Nat)(n m:Nat)(h:∀b,b<n->π b<m):∀l:List ah,bG n l->bG m (eC π l)
 |[],_=>trivial
 |a :: cI,k=>⟨PU π n m h a k.1,xg π n m h cI k.2⟩
end
theorem Yn (π ρ:Nat->Nat)(x:bS):eo π (eo ρ x)=eo (λb=>π (ρ b)) x:=by
 cases x<;>simp[eo,BI]
theorem Ydt (π ρ:Nat->Nat)(n:Nat)(h:∀b,b<n->π b = ρ b)(x:bS)(hx:x.low n):eo π x=eo ρ x:=by
 cases x with
 |var cs=>simp only[eo];rw[xd π ρ n h cs hx]
 |row es f=>simp only[eo];rw[xd π ρ n h es hx]
 |map ks vs f=>simp only[eo];rw[xd π ρ n h ks hx.1,xd π ρ n h vs hx.2]
 |iter s p=>rfl
 |mC ks vs s=>simp only[eo];rw[xd π ρ n h ks hx.1,xd π ρ n h vs hx.2]
 |loop r=>simp only[eo];rw[xd π ρ n h r.tm hx]
theorem Ykm (π:Nat->Nat)(n m:Nat)(h:∀b,b<n->π b<m)(x:bS)(hx:x.low n):(eo π x).low m:=by
 cases x with
 |var cs=>exact xg π n m h cs hx
 |row es f=>exact xg π n m h es hx
 |map ks vs f=>exact⟨xg π n m h ks hx.1,xg π n m h vs hx.2⟩
 |iter s p=>trivial
 |mC ks vs s=>exact⟨xg π n m h ks hx.1,xg π n m h vs hx.2⟩
 |loop r=>exact xg π n m h r.tm hx
theorem CL (π:Nat->Nat)(n:Nat)(h:∀b,b<n->π b=b)(x:bS)(hx:x.low n):eo π x=x:=by
 cases x with
 |var cs=>simp only[eo];rw[sP π n h cs hx]
 |row es f=>simp only[eo];rw[sP π n h es hx]
 |map ks vs f=>simp only[eo];rw[sP π n h ks hx.1,sP π n h vs hx.2]
 |iter s p=>rfl
 |mC ks vs s=>simp only[eo];rw[sP π n h ks hx.1,sP π n h vs hx.2]
 |loop r=>simp only[eo];rw[sP π n h r.tm hx]
def om (n t b:Nat):Nat:=if b<n then b else b+t
def nB (n t:Nat)(τ σ1:av):av:=(σ1.take n).map (Option.map (eo (om n t)))++(τ++(σ1.drop n).map (Option.map (eo (om n t))))
section
variable {P:Program}{X:Nat->Nat->Prop}{base:Nat}{σ σ1 τ:av}{β β':Env}{w w':World}{n t:Nat}
theorem HL {b:Nat}(h:b<n):om n t b=b:=if_pos h
theorem Kt {b:Nat}(h:¬b<n):om n t b=b+t:=if_neg h
theorem Uu (h:n<=σ1.length)(ht : τ.length=t):(nB n t τ σ1).length = σ1.length+t:=by
 simp only[nB,aA,ao,bN,cr];omega
theorem IC (h:n<=σ1.length)(ht : τ.length=t)(b:Nat):(nB n t τ σ1)[om n t b]? = (σ1[b]?).map (Option.map (eo (om n t))):=by
 have hl:((σ1.take n).map (Option.map (eo (om n t)))).length=n:=by simp;omega
 by_cases hb:b<n
 ·rw[HL hb,nB,cK (by omega),cE,fh,if_pos hb]
 ·rw[Kt hb,nB,b9 (by omega),hl,b9 (by omega),cE,dZ];congr 2;omega
theorem LP (h:n<=σ1.length)(ht : τ.length=t){b:Nat}(h1:n<=b)(h2:b<n+t):(nB n t τ σ1)[b]? = τ[b-n]?:=by
 have hl:((σ1.take n).map (Option.map (eo (om n t)))).length=n:=by simp;omega
 rw[nB,b9 (by omega),hl,cK (by omega)]
theorem Yu (b:Nat):(n<=b/\b<n+t)\/∃b',b=om n t b':=by
 by_cases h1:b<n
 ·exact .inr ⟨b,(HL h1).symm⟩
 ·by_cases h2:b<n+t
  ·exact .inl ⟨by omega,h2⟩
  ·exact .inr ⟨b-t,by rw[Kt (by omega)];omega⟩
theorem Yvu {b b':Nat}(h:om n t b=om n t b'):b=b':=by
 unfold om at h;split at h<;>split at h<;>omega
theorem U7 (b:Nat):¬(n<=om n t b/\om n t b<n+t):=by unfold om;split<;>omega
theorem Yy1 {b m:Nat}(hm:n<=m)(h:b<m):om n t b<m+t:=by unfold om;split<;>omega
def Gi (n t m b:Nat):Nat:=if b<n then b else if b<n+t then m else b-t
theorem Yyp {m b:Nat}:Gi n t m (om n t b)=b:=by
 unfold Gi om;by_cases h:b<n
 ·simp[h]
 ·rw[if_neg h,if_neg (by omega),if_neg (by omega)];omega
theorem Lt {b:Nat} {x:bS} (h:n<=σ1.length) (hx:(nB n t (List.replicate t none) σ1)[b]? = some (some x)):∃b' y,b=om n t b'/\σ1[b']? = some (some y)/\x=eo (om n t) y:=by
 rcases Yu (n:=n) (t:=t) b with⟨h1,h2⟩|⟨b',rfl⟩
 ·rw[LP h (by simp) h1 h2]at hx;exact absurd hx Y0
 ·rw [IC h (by simp)]at hx;cases e : σ1[b']? with
  |none=>rw[e]at hx;cases hx
  |some o =>
   rw[e]at hx;cases o with
   |none=>cases hx
   |some y=>cases hx;exact⟨b',y,rfl,e,rfl⟩
theorem ak.IY {F:Frame->List Frame->Sem Next->World->Value->World->Prop} {f:ah} {args:List ah} {K:ah->av->Prop} (t:Nat) (hf:f.low σ.length) (ha:bG σ.length args) (hs:bH σ.length σ)
  (h:dn P F f args σ (λr σ'=>∃σ1,ic σ1 σ'/\σ.length<=σ1.length/\bH σ1.length σ1/\r.low σ1.length/\K (ez (om σ.length t) r) (nB σ.length t (List.replicate t none) σ1))):dn P F f args (σ++List.replicate t none) K:=by
 intro X base β w vf vs h1 ou h2 h3 fr cs h4;have hle:zY σ (σ++List.replicate t none):=λb x hb=>yU.2 hb;obtain⟨r,jO,nZ,v,w2,⟨σ1,d1,d2,d3,d4,d5⟩,g1,g2,g3,g4,g5⟩:=h X base (β.cut σ.length) w vf vs (h1.drop hle rfl (sq hs)) (ou.drop hle rfl hf) h2 (λi hi=>(h3 i hi).drop hle rfl (jZ ha i)) fr cs h4;have k1:=g1.drop (xe d1) rfl (sq d3);have k2:=g2.drop (xe d1) rfl d4;have k3:=g3.drop (xe d1) rfl d2;generalize nZ.cut σ1.length = ED at *
 generalize hn : σ.length=n at *
 let xb:Env:=λb=>if b<n then ED b else if b<n+t then β b else ED (b-t)
 have hlen:(nB n t (List.replicate t none) σ1).length = σ1.length+t:=Uu d2 (by simp);have e0:∀b,xb (om n t b) = ED b:=λb=>by
  by_cases hb:b<n
  ·rw[HL hb];exact if_pos hb
  ·rw[Kt hb];simp only[xb];rw[if_neg (by omega),if_neg (by omega),Nat.add_sub_cancel]
 have fA:∀b L,kJ ED (Gi n t σ1.length) (σ1.length+t) b=some L->xb b=some L:=λb L hb=>by
  simp only[kJ]at hb;split at hb
  ·simp only[Gi]at hb;simp only[xb];split at hb
   ·rename_i c;rw[if_pos c];exact hb
   ·rename_i c;rw[if_neg c];split at hb
    ·rw[k1.o_ _ (ae _)]at hb;cases hb
    ·rename_i c2;rw[if_neg c2];exact hb
  ·cases hb
 have hm:∀g o,jR (nB n t (List.replicate t none) σ1) xb g o↔jR σ1 ED g o:=λg o=>by
  constructor
  ·rintro⟨b,cG,L,m1,m2,m3,m4⟩;obtain⟨b',y,rfl,q1,rfl⟩:=Lt d2 m1;rw[e0]at m2;rw[EY]at m4;exact⟨b',y,L,q1,m2,m3,m4⟩
  ·rintro⟨b,cG,L,m1,m2,m3,m4⟩;exact⟨om n t b,eo (om n t) cG,L,by rw[IC d2 (by simp),m1];rfl,by rw[e0];exact m2,m3,by rw[EY];exact m4⟩
 have uX:∀g o,jR σ (β.cut n) g o↔jR (σ++List.replicate t none) β g o:=λg o=>by
  rw[DV];constructor
  ·rintro⟨b,cG,L,m1,m2,m3⟩;have hb:=(aN.1 m1).1;exact⟨b,cG,L,m1,by rw[Env.mg (by omega)]at m2;exact m2,m3⟩
  ·rintro⟨b,cG,L,m1,m2,m3⟩;have hb:=(aN.1 m1).1;exact⟨b,cG,L,m1,by rw[Env.mg (by omega)];exact m2,m3⟩
 have hk:dK w2 (MT X σ1 ED) w2 (MT X (nB n t (List.replicate t none) σ1) xb):=dK.nr λg o h=>h.imp id λh=>(hm g o).1 h;have tu:∀b,Gi n t σ1.length (om n t b)=b:=λb=>Yyp;have lg:∀b,b < σ1.length->om n t b < σ1.length+t:=λb hb=>Yy1 d2 hb;refine⟨_,_,xb,v,w2,d5,⟨λb hb=>?_,λb cG hb=>?_,λb b' x y L L' m1 m2 m3 m4 hg=>?_,k1.size,k1.sc,k1.gl⟩,?_,⟨k3.os,k3.tape,k3.output,k3.size,λg o v hc hn=>k3.cell g o v hc λh=>hn ((uX g o).1 h),λg hg hn=>k3.block g hg λo h=>hn o ((uX g o).1 h),
  λg o h=>(k3.jq g o ((hm g o).1 h)).imp (λh=>(uX g o).1 h) id,λb hb=>?_⟩,?_,g5⟩
 ·rw[hlen]at hb;simp only[xb];rw[if_neg (by omega),if_neg (by omega)];exact k1.o_ _ (by omega)
 ·obtain ⟨b',y,rfl,q1,rfl⟩:=Lt d2 hb;obtain⟨L,q2,q3,q4,q5⟩:=k1.cG b' y q1;have hy:=sq d3 b' y q1;refine⟨L,by rw[e0];exact q2,q3,q4,?_⟩;have q6:ig w2 (MT X σ1 ED) ED L (eo (Gi n t σ1.length) (eo (om n t) y)):=by
   rw[Yn,CL _ σ1.length (λb _=>tu b) y hy];exact q5
  exact(q6.ez (n:=σ1.length+t) (Ykm _ _ _ lg y hy)).mono hk fA rfl
 ·obtain⟨c,x',rfl,q1,rfl⟩:=Lt d2 m1;obtain⟨c',y',rfl,q2,rfl⟩:=Lt d2 m2;rw[e0]at m3 m4;rw[k1.inj c c' x' y' L L' q1 q2 m3 m4 hg]
 ·have q6:=cn.ez (π:=Gi n t σ1.length) (n:=σ1.length+t) k2 (ez (om n t) r) (by rw[PH,Iy _ σ1.length (λb _=>tu b) r d4]) (PU _ _ _ lg r d4);exact q6.mono hk fA
 ·rw[aA,bJ,hn]at hb;simp only[xb];by_cases c:b<n
  ·rw[if_pos c,k3.env b c,Env.mg c]
  ·rw[if_neg c,if_pos hb]
 ·rw[hlen,aA,bJ];omega
theorem Ypg (h:n<=σ1.length) (hn : σ.length=n):jb (λb=>decide (b<n)) 0 (nB n τ.length (List.replicate τ.length none) σ1) (σ++τ)=nB n τ.length τ σ1:=by
 apply bZ;intro b;have hl:(σ++τ).length<=(nB n τ.length (List.replicate τ.length none) σ1).length:=by rw[Uu h (by simp),aA];omega
 rw[GJ _ _ _ _ _ hl,br];rcases Yu (n:=n) (t:=τ.length) b with⟨h1,h2⟩|⟨b',rfl⟩
 ·rw[if_pos ⟨by rw[aA];omega,by simp;omega⟩,LP h rfl h1 h2,b9 (by omega),hn]
 ·rw[IC h rfl,IC h (by simp)];by_cases c:b'<n
  ·rw[if_neg];rw[HL c];simp[c]
  ·rw[if_neg];rw[Kt c,aA];intro hh;omega
theorem ak.Ez {F:Frame->List Frame->Sem Next->World->Value->World->Prop} {f:ah} {args:List ah} {K:ah->av->Prop} (hf:f.low σ.length) (ha:bG σ.length args) (hs:bH σ.length σ)
  (h:dn P F f args σ (λr σ'=>∃σ1,ic σ1 σ'/\σ.length<=σ1.length/\bH σ1.length σ1/\r.low σ1.length/\K (ez (om σ.length τ.length) r) (nB σ.length τ.length τ σ1))):dn P F f args (σ++τ) K:=by
 refine ak.frame (λb=>decide (b < σ.length)) (K':=λr jO=>∃σ1,σ.length<=σ1.length/\jO=nB σ.length τ.length (List.replicate τ.length none) σ1/\K r (nB σ.length τ.length τ σ1)) ?_ ?_
 ·rw[Ld σ.length σ τ 0 (by omega)];refine ak.IY _ hf ha hs (h.mono ?_);rintro r σ' ⟨σ1,d1,d2,d3,d4,d5⟩;exact⟨σ1,d1,d2,d3,d4,σ1,d2,rfl,d5⟩
 ·rintro r jO ⟨σ1,h1,rfl,h3⟩;refine⟨λb hb hv=>?_,by rw[Ypg h1 rfl];exact h3⟩;simp only[decide_eq_false_iff_not]at hv;rw[aA]at hb;rw[LP h1 (by simp) (by omega) (by omega),dz,if_pos (by omega)]
end
section
variable {P:Program}{lo:Ctx}{st eG:St}{Q:cB->St->Prop}{π:Nat->Nat}
theorem mR.wr {Q:cB->St->Prop}{ops:Array Oper}{r l:List Nat}(h:Wr lo.n π eG st)(iG:lo.n<=eG.σ.length)(he:mR P lo ops r l eG Q):mR P lo ops r l st Q:=by
 intro X base mb D β a w b k cs h1 h2 h3;obtain⟨hw,hx⟩:=h.rel h3 iG;obtain⟨e1,lp,fI,a1,w1,q,g1,g2,g3,g4⟩:=he X base mb D _ a w b k cs iG h2 hw;exact⟨e1,lp,fI,a1,w1,q,g1,g2,hx.trans g3,g4⟩
theorem aC.wr {all:Array Oper}{l:List Oper}{k:List KI}(h:Wr lo.n π eG st)(iG:lo.n<=eG.σ.length)(he:aC P lo Q (.ops all l :: k) .normal eG):aC P lo Q (.ops all l :: k) .normal st:=by
 simp only[aC]at he ⊢;exact λhs=>mR.wr h iG (he hs)
theorem LB {n:Nat}:∀ {l:List ah},bG n l->∀(i:Nat) {a:ah},a.low n->bG n (l.set i a)
 |[],_,_,_,_=>trivial
 |_ :: _,h,0,_,ha=>⟨ha,h.2⟩
 |_ :: _,h,i+1,_,ha=>⟨h.1,LB h.2 i ha⟩
theorem Nq {n m:Nat}(h:n<=m){x:bS}(hx:x.low n):x.low m:=by
 cases x with
 |var cs=>exact iD h hx
 |row es f=>exact iD h hx
 |map ks vs f=>exact⟨iD h hx.1,iD h hx.2⟩
 |iter s p=>trivial
 |mC ks vs s=>exact⟨iD h hx.1,iD h hx.2⟩
 |loop r=>exact iD h hx
def qt (m n:Nat)(l:List ah):Prop:=∀ρ:Nat->Nat,(∀b,b<m\/n<=b->ρ b=b)->eC ρ l=l
def wD (m n:Nat)(τ:av):Prop:=∀ρ:Nat->Nat,(∀b,b<m\/n<=b->ρ b=b)->∀x,some x ∈ τ->eo ρ x=x
theorem OJ:∀l:List ah,nA l l
 |[]=>trivial
 |_ :: r=>⟨.inl rfl,OJ r⟩
theorem aC.tf {f:ah} {args:List ah} {σ τ:av} {T:ah->List ah} {all:Array Oper} {l:List Oper} {k:List KI} (r0:ah) (h3:r0.low 0) (iG:lo.n<=σ.length) (hf:f.low σ.length) (ha:bG σ.length args) (hs:bH σ.length σ)
  (wN:qt lo.n σ.length (T r0)) (Bi:wD lo.n σ.length τ) (bx:bG (σ.length + τ.length) (T r0)) (Ry:bH (σ.length + τ.length) τ)
  (h:ak P f args σ (λr σ'=>r=r0/\σ.length<=σ'.length/\bH σ'.length σ'/\∃π σ1,σ1.length = σ.length/\(∀b,b<lo.n->π b=b)/\(∀b b',b < σ.length->b' < σ.length->π b = π b'->b=b')/\iH π σ' 0 σ1/\bH σ.length σ1 /\
   aC P lo Q (.ops all l :: k) .normal ⟨T r0,σ1++τ⟩)) :
  ak P f args (σ++τ) (λr σ'=>aC P lo Q (.ops all l :: k) .normal ⟨T r,σ'⟩):=by
 refine ak.Ez hf ha hs (h.mono ?_);rintro r σ' ⟨rfl,h1,h2,π,σ1,h4,h5,h6,h7,h8,h9⟩;refine⟨σ',gL σ',h1,h2,oJ (aj _) h3,?_⟩;rw[zJ h3];generalize hn : σ.length=n at *
 generalize ht : τ.length=t at *
 let ρ:Nat->Nat:=λb=>if b<n then om n t (π b) else b
 have eI:∀b,b<lo.n\/n<=b->ρ b=b:=λb hb=>by
  simp only[ρ];split
  ·rename_i c;rw[h5 b (by omega),HL c]
  ·rfl
 refine aC.wr (π:=ρ) ⟨λb hb=>eI b (.inl hb),λb b' l1 l2 e=>?_,?_,λb x hb=>?_,?_,λb x hb=>?_⟩ (by simp only[aA];omega) h9
 ·simp only[ρ]at e;split at e<;>split at e
  ·exact h6 b b' (by omega) (by omega) (Yvu e)
  ·rename_i c1 c2;refine absurd ⟨?_,?_⟩ (U7 (n:=n) (t:=t) (π b))
   ·rw[e];omega
   ·rw[e];simp only[aA]at l2;omega
  ·rename_i c1 c2;refine absurd ⟨?_,?_⟩ (U7 (n:=n) (t:=t) (π b'))
   ·rw[<-e];omega
   ·rw[<-e];simp only[aA]at l1;omega
  ·exact e
 ·simp only[wN ρ eI];exact OJ _
 ·simp only[ρ];simp only at hb ⊢;by_cases c:b<n
  ·rw[if_pos c,IC h1 ht];rw[cK (by omega)]at hb;have:=KS σ1 0 h7 b x hb;rw[br]at this;rw[this];simp only[bD];rw[Yn,Ydt (λb=>om n t (π b)) ρ n (λb hb=>by simp only[ρ,if_pos hb]) x (sq h8 b x hb)]
  ·rw[if_neg c];rw[b9 (by omega),h4]at hb;have nP:=(aN.1 hb).1;rw[LP h1 ht (by omega) (by omega),hb,Bi ρ eI x (nn hb)]
 ·simp only[aA,h4,ht];exact bx
 ·simp only[aA,h4,ht];simp only at hb;by_cases c:b<n
  ·rw[cK (by omega)]at hb;exact Nq (by omega) (sq h8 b x hb)
  ·rw[b9 (by omega)]at hb;exact sq Ry _ x hb
theorem aC.Ak {f:ah} {args:List ah} {σ:av} {T:ah->List ah} {all:Array Oper} {l:List Oper} {k:List KI} (r0:ah) (h3:r0.low 0) (iG:lo.n<=σ.length) (hf:f.low σ.length) (ha:bG σ.length args) (hs:bH σ.length σ)
  (wN:qt lo.n σ.length (T r0)) (bx:bG σ.length (T r0))
  (h:ak P f args σ (λr σ'=>r=r0/\σ.length<=σ'.length/\bH σ'.length σ'/\∃π σ1,σ1.length = σ.length/\(∀b,b<lo.n->π b=b)/\(∀b b',b < σ.length->b' < σ.length->π b = π b'->b=b')/\iH π σ' 0 σ1/\bH σ.length σ1 /\
   aC P lo Q (.ops all l :: k) .normal ⟨T r0,σ1⟩)) :
  ak P f args σ (λr σ'=>aC P lo Q (.ops all l :: k) .normal ⟨T r,σ'⟩):=by
 have:=aC.tf (τ:=[]) (T:=T) r0 h3 iG hf ha hs wN (λ_ _ _ h=>by simp at h) bx trivial (h.mono λr σ' hk=>by
  obtain⟨k1,k2,k3,π,σ1,k4,k5,k6,k7,k8,k9⟩:=hk;exact⟨k1,k2,k3,π,σ1,k4,k5,k6,k7,k8,by rw[bf];exact k9⟩)
 rwa [bf]at this
end
end Go.dq
