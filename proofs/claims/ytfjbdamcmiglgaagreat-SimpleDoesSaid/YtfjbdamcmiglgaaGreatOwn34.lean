/- Part 34 of what the claim rests on. -/
import Derived.Test.YtfjbdamcmiglgaaGreatOwn33
set_option linter.all false
abbrev eS:=@List.replicate_succ
abbrev jF:=@Nat.lt_irrefl
namespace Go.dq
open Go
section
variable {P:Program}{X:Nat->Nat->Prop}{base:Nat}{σ σ' τ:av}{β β':Env}{w w':World}
theorem Y0 {k b:Nat}{x:bS}:¬(List.replicate k (none:Option bS))[b]? = some (some x):=by
 rw[dz];split<;>simp
theorem yU {k b:Nat} {x:bS}:(σ++List.replicate k none)[b]? = some (some x)↔σ[b]? = some (some x):=by
 by_cases h:b < σ.length
 ·rw[cK h]
 ·rw[b9 (by omega)];constructor
  ·exact λe=>absurd e Y0
  ·intro e;exact absurd (aN.1 e).1 (by omega)
theorem DV {k g o:Nat}:jR (σ++List.replicate k none) β g o↔jR σ β g o:=by
 simp only[jR,yU]
theorem c8.Sw (hr:c8 X base σ β w)(k:Nat):c8 X base (σ++List.replicate k none) β w:=by
 have hk:dK w (MT X σ β) w (MT X (σ++List.replicate k none) β):=dK.nr λg o h=>h.imp id λhm=>DV.1 hm;refine⟨λb hb=>hr.o_ b (by rw[aA]at hb;omega),λb cG hb=>?_,λb b' x y L L' e1 e2=>hr.inj b b' x y L L' (yU.1 e1) (yU.1 e2),hr.size,hr.sc,hr.gl⟩;obtain⟨L,q1,q2,q3,q4⟩:=hr.cG b cG (yU.1 hb);exact⟨L,q1,q2,q3,q4.mono hk (λ_ _ h=>h) rfl⟩
theorem ak.pad {F:Frame->List Frame->Sem Next->World->Value->World->Prop} {f:ah} {args:List ah} {K:ah->av->Prop} (k:Nat) (h:dn P F f args (σ++List.replicate k none) (mI K σ.length)):dn P F f args σ K:=by
 intro X base β w vf vs h1 ou h2 h3 fr cs h4;have hk:dK w (MT X σ β) w (MT X (σ++List.replicate k none) β):=dK.nr λg o h=>h.imp id λhm=>DV.1 hm;obtain⟨r,jO,nZ,v,w2,⟨mP,d1,d2,d3,d4,d5⟩,g1,g2,g3,g4,g5⟩:=h X base β w vf vs (h1.Sw k) (ou.mono hk (λ_ _ h=>h)) h2 (λi hi=>(h3 i hi).mono hk (λ_ _ h=>h)) fr cs h4;have D4:=(g3.lower (lo':=σ.length) (by rw[aA];omega)).drop (xe d1) rfl d2;exact⟨r,mP,_,v,w2,d5,g1.drop (xe d1) rfl (sq d3),g2.drop (xe d1) rfl d4,
  ⟨D4.os,D4.tape,D4.output,D4.size,λg o v hc hn=>D4.cell g o v hc λhm=>hn (DV.1 hm),λg hg hn=>D4.block g hg λo hm=>hn o (DV.1 hm),λg o hm=>(D4.jq g o hm).imp (λh=>DV.1 h) id,D4.env⟩,d2,g5⟩
theorem ak.grow {F:Frame->List Frame->Sem Next->World->Value->World->Prop} {f:ah} {args:List ah} {K:ah->av->Prop} (k:Nat) (hf:f.low σ.length) (ha:bG σ.length args) (hs:bH σ.length σ)
  (h:dn P F f args σ (λr σ'=>σ'.length = σ.length/\K r (σ'++List.replicate k none))):dn P F f args (σ++List.replicate k none) K:=by
 intro X base β w vf vs h1 ou h2 h3 fr cs h4;have hle:zY σ (σ++List.replicate k none):=λb x hb=>yU.2 hb;obtain⟨r,jO,nZ,v,w2,⟨d1,d2⟩,g1,g2,g3,g4,g5⟩:=h X base (β.cut σ.length) w vf vs (h1.drop hle rfl (sq hs)) (ou.drop hle rfl hf) h2 (λi hi=>(h3 i hi).drop hle rfl (jZ ha i)) fr cs h4
 let xb:Env:=λb=>if b < σ.length then nZ b else β b
 have e1:∀b,b < σ.length->xb b = nZ b:=λb hb=>if_pos hb;have e2:∀b,b < σ.length->nZ b = β b:=λb hb=>(g3.env b hb).trans (Env.mg hb);have fA:∀b L,nZ b=some L->xb b=some L:=λb L hb=>by
  by_cases c:b < σ.length
  ·rw[e1 b c];exact hb
  ·rw[g1.o_ b (by omega)]at hb;cases hb
 have hm:∀g o,jR (jO++List.replicate k none) xb g o↔jR jO nZ g o:=λg o=>by
  rw[DV];constructor
  ·rintro⟨b,cG,L,m1,m2,m3⟩;have hb:b < σ.length:=by have:=(aN.1 m1).1;omega
   exact⟨b,cG,L,m1,(e1 b hb) ▸ m2,m3⟩
  ·rintro⟨b,cG,L,m1,m2,m3⟩;exact⟨b,cG,L,m1,fA b L m2,m3⟩
 have uX:∀g o,jR σ (β.cut σ.length) g o↔jR (σ++List.replicate k none) β g o:=λg o=>by
  rw[DV];constructor
  ·rintro⟨b,cG,L,m1,m2,m3⟩;have hb:=(aN.1 m1).1;exact⟨b,cG,L,m1,by rw[Env.mg hb]at m2;exact m2,m3⟩
  ·rintro⟨b,cG,L,m1,m2,m3⟩;have hb:=(aN.1 m1).1;exact⟨b,cG,L,m1,by rw[Env.mg hb];exact m2,m3⟩
 have hk:dK w2 (MT X jO nZ) w2 (MT X (jO++List.replicate k none) xb):=dK.nr λg o h=>h.imp id λh=>(hm g o).1 h;refine⟨r,_,xb,v,w2,d2,⟨λb hb=>?_,λb cG hb=>?_,λb b' x y L L' m1 m2 m3 m4 hg=>?_,g1.size,g1.sc,g1.gl⟩,g2.mono hk fA,⟨g3.os,g3.tape,g3.output,g3.size,λg o v hc hn=>g3.cell g o v hc λh=>hn ((uX g o).1 h),λg hg hn=>g3.block g hg λo h=>hn o ((uX g o).1 h),
  λg o h=>(g3.jq g o ((hm g o).1 h)).imp (λh=>(uX g o).1 h) id,λb hb=>?_⟩,by rw[aA,aA];omega,g5⟩
 ·rw[aA]at hb;have:¬b < σ.length:=by omega
  simp only[xb,if_neg this];exact h1.o_ b (by rw[aA];rw[d1]at hb;exact hb)
 ·obtain⟨L,q1,q2,q3,q4⟩:=g1.cG b cG (yU.1 hb);exact⟨L,fA b L q1,q2,q3,q4.mono hk fA rfl⟩
 ·have l1:=(aN.1 (yU.1 m1)).1;have l2:=(aN.1 (yU.1 m2)).1;rw[e1 b (by omega)]at m3;rw[e1 b' (by omega)]at m4;exact g1.inj b b' x y L L' (yU.1 m1) (yU.1 m2) m3 m4 hg
 ·by_cases c:b < σ.length
  ·rw[e1 b c,e2 b c]
  ·simp only[xb,if_neg c]
theorem Ld (n:Nat):∀(σ τ:av) (i:Nat),i + σ.length=n->fB (λb=>decide (b<n)) i (σ++τ) = σ++List.replicate τ.length none
 |[],[],i,_=>rfl
 | [],t :: τ,i,h=>by
  have:=Ld (i+1) [] τ (i+1) (by simp);simp only[aY]at this ⊢;simp only[aF,cF]at h;subst h;simp only[fB,jF,decide_false,aX,if_false,aq,eS];rw[<-this];congr 1;have Fz:∀(τ:av) (j:Nat),i<j->fB (λb=>decide (b<i)) j τ=fB (λb=>decide (b<i+1)) j τ:=by
   intro τ
   induction τ with
   |nil=>intro j _;rfl
   |cons a τ ih=>intro j hj;simp only[fB,show ¬j<i by omega,show ¬j<i+1 by omega];rw[ih (j+1) (by omega)]
  exact Fz τ (i+1) (by omega)
 |s :: σ,τ,i,h=>by
  simp only[bq,fB];simp only[aq]at h;rw[Ld n σ τ (i+1) (by omega),if_pos (by simp;omega)]
theorem W2 (n:Nat):∀(σ' σ τ:av) (i:Nat),i + σ.length=n->σ'.length = σ.length->jb (λb=>decide (b<n)) i (σ'++List.replicate τ.length none) (σ++τ) = σ'++τ
 |[],[],[],i,_,_=>rfl
 | [],[],t :: τ,i,h,_=>by
  simp only[aF,cF]at h;subst h;have Fz:∀(τ:av) (j:Nat),i<=j->jb (λb=>decide (b<i)) j (List.replicate τ.length none) τ = τ:=by
   intro τ
   induction τ with
   |nil=>intro j _;rfl
   |cons a τ ih=>intro j hj;simp only[aq,eS,jb,show ¬j<i by omega,decide_false,aX,if_false];rw[ih (j+1) (by omega)]
  exact Fz (t :: τ) i (ae _)
 |s' :: σ',s :: σ,τ,i,h,h2=>by
  simp only[aq]at h h2;simp only[bq,jb];rw[W2 n σ' σ τ (i+1) (by omega) (by omega),if_pos (by simp;omega)]
theorem ak.tail {F:Frame->List Frame->Sem Next->World->Value->World->Prop} {f:ah} {args:List ah} {K:ah->av->Prop} (hf:f.low σ.length) (ha:bG σ.length args) (hs:bH σ.length σ)
  (h:dn P F f args σ (λr σ'=>σ'.length = σ.length/\K r (σ'++τ))):dn P F f args (σ++τ) K:=by
 refine ak.frame (λb=>decide (b < σ.length)) (K':=λr jO=>∃σ',jO = σ'++List.replicate τ.length none/\σ'.length = σ.length/\K r (σ'++τ)) ?_ ?_
 ·rw[Ld σ.length σ τ 0 (by omega)];refine ak.grow _ hf ha hs (h.mono λr σ' hk=>⟨hk.1,σ',rfl,hk.1,hk.2⟩)
 ·rintro r jO ⟨σ',rfl,h1,h2⟩;refine⟨λb hb hv=>?_,by rw[W2 σ.length σ' σ τ 0 (by omega) h1];exact h2⟩;simp only[decide_eq_false_iff_not]at hv;rw[aA]at hb;rw[b9 (by omega),dz,if_pos (by omega)]
end
theorem gL:∀σ:av,ic σ σ
 |[]=>trivial
 |_ :: r=>⟨.inl rfl,gL r⟩
end Go.dq
