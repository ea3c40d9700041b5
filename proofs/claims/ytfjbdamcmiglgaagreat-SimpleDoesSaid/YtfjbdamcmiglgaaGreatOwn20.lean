/- Part 20 of what the claim rests on. -/
import Derived.Test.YtfjbdamcmiglgaaGreatOwn19
set_option linter.all false
abbrev aj:=@Nat.zero_le
namespace Go.dq
open Go
def fB (vis:Nat->Bool):Nat->av->av
 |_,[]=>[]
 |i,b :: r=>(if vis i=true then b else none):: fB vis (i+1) r
def jb (vis:Nat->Bool):Nat->av->av->av
 |_,ns,[]=>ns
 |i,n :: ns,o :: os=>(if vis i=true then n else o):: jb vis (i+1) ns os
 |_,[],_ :: _=>[]
theorem uj (vis:Nat->Bool):∀(σ:av) (i:Nat),(fB vis i σ).length = σ.length
 |[],_=>rfl
 |b :: r,i=>by simp[fB,uj vis r (i+1)]
theorem ym (vis:Nat->Bool):∀(σ:av) (i b:Nat),(fB vis i σ)[b]? = (σ[b]?).map λx=>if vis (i+b)=true then x else none
 |[],i,b=>by simp[fB]
 |x :: r,i,0=>by simp[fB]
 |x :: r,i,b+1=>by
  simp only[fB,dS,ym vis r (i+1) b];rw[show i+1+b=i+(b+1) by omega]
theorem OX (vis:Nat->Bool):∀(ns os:av) (i:Nat),os.length<=ns.length->(jb vis i ns os).length=ns.length
 |ns,[],_,_=>by cases ns<;>rfl
 |n :: ns,o :: os,i,h=>by simp[jb,OX vis ns os (i+1) (by simpa using h)]
 |[],_ :: _,_,h=>by simp at h
theorem GJ (vis:Nat->Bool):∀(ns os:av) (i b:Nat),os.length<=ns.length->(jb vis i ns os)[b]? = if b<os.length/\vis (i+b)=false then os[b]? else ns[b]?
 |ns,[],i,b,_=>by cases ns<;>simp[jb]
 |n :: ns,o :: os,i,0,h=>by
  cases hv:vis i<;>simp[jb,hv]
 |n :: ns,o :: os,i,b+1,h=>by
  simp only[jb,dS,aq,Nat.add_lt_add_iff_right];rw[GJ vis ns os (i+1) b (by simpa using h),show i+1+b=i+(b+1) by omega]
 |[],_ :: _,_,_,h=>by simp at h
def rC (X:Nat->Nat->Prop)(vis:Nat->Bool)(σ:av)(β:Env)(g o:Nat):Prop :=
 X g o\/∃b cG L,σ[b]? = some (some cG)/\vis b=false/\β b=some L/\L.g=g/\(cG.mut L o\/(∃ks vs f,cG=.map ks vs f)/\o=1)
section
variable {P:Program}{X:Nat->Nat->Prop}{base:Nat}{σ σ':av}{β β':Env}{w w':World}{vis:Nat->Bool}
theorem GH {b:Nat}{x:bS}:(fB vis 0 σ)[b]? = some (some x)↔vis b=true/\σ[b]? = some (some x):=by
 rw[ym,br];cases σ[b]? with
 |none=>simp
 |some y=>cases vis b<;>simp
theorem UJ {b:Nat}{cG:bS}{L:Loc}(h1 : σ[b]? = some (some cG))(h2:vis b=false)(h3 : β b=some L):∃o,rC X vis σ β L.g o:=by
 cases cG with
 |var cs=>exact⟨0,.inr ⟨b,_,L,h1,h2,h3,rfl,.inl trivial⟩⟩
 |row es fz=>exact⟨L.o+fz*L.sz,.inr ⟨b,_,L,h1,h2,h3,rfl,.inl (ae _)⟩⟩
 |map ks vs f=>exact⟨1,.inr ⟨b,_,L,h1,h2,h3,rfl,.inr ⟨⟨_,_,_,rfl⟩,rfl⟩⟩⟩
 |iter s p=>exact⟨0,.inr ⟨b,_,L,h1,h2,h3,rfl,.inl trivial⟩⟩
 |mC ks vs seen=>exact⟨0,.inr ⟨b,_,L,h1,h2,h3,rfl,.inl trivial⟩⟩
 |loop r=>exact⟨0,.inr ⟨b,_,L,h1,h2,h3,rfl,.inl trivial⟩⟩
theorem XB {g o:Nat}(h:MT (rC X vis σ β) (fB vis 0 σ) β g o):MT X σ β g o\/(∃b ks vs f L,σ[b]? = some (some (.map ks vs f))/\vis b=false/\β b=some L/\L.g=g)/\o=1:=by
 rcases h with(h|⟨b,cG,L,h1,h2,h3,h4,h5|⟨⟨ks,vs,f,rfl⟩,rfl⟩⟩) | ⟨b,cG,L,h1,h2,h3,h4⟩
 ·exact .inl (.inl h)
 ·exact .inl (.inr ⟨b,cG,L,h1,h3,h4,h5⟩)
 ·exact .inr ⟨⟨b,ks,vs,f,L,h1,h2,h3,h4⟩,rfl⟩
 ·exact .inl (.inr ⟨b,cG,L,(GH.1 h1).2,h2,h3,h4⟩)
theorem Yd0 {w:World}{g o:Nat}{es:Array MapEntry}{c:Nat}{v:Value}(h:w.heap[g]? = some (.map es c)):w.cell? ⟨g,o,none⟩≠some v:=by
 intro h2;simp[World.cell?,h]at h2
theorem DJ (hr:c8 X base σ β w):dK w (MT X σ β) w (MT (rC X vis σ β) (fB vis 0 σ) β):=by
 refine⟨λg o v hc hn=>⟨hc,λhm=>?_⟩,λg es c hg hn=>⟨hg,λhm=>?_⟩⟩
 ·rcases XB hm with h|⟨⟨b,ks,vs,f,L,h1,h2,h3,rfl⟩,rfl⟩
  ·exact hn h
  ·obtain⟨L',q1,q2,q3,es,clk,q4,_⟩:=hr.cG b _ h1;obtain rfl:=aS (q1.symm.trans h3);exact Yd0 q4 hc
 ·rcases XB hm with h|⟨_,h⟩
  ·exact hn h
  ·cases h
theorem c8.AU (hr:c8 X base σ β w):c8 (rC X vis σ β) base (fB vis 0 σ) β w:=by
 refine⟨λb hb=>hr.o_ b (by rw[uj]at hb;exact hb),λb cG hb=>?_,λb b' x y L L' h1 h2=>hr.inj b b' x y L L' (GH.1 h1).2 (GH.1 h2).2,hr.size,?_,hr.gl⟩
 ·obtain⟨hv,hb⟩:=GH.1 hb;obtain⟨L,q1,q2,q3,q4⟩:=hr.cG b cG hb;refine⟨L,q1,q2,λo hh=>?_,q4.mono (DJ hr) (λ_ _ h=>h) rfl⟩;rcases hh with hh|⟨b',mf,L',h1,h2,h3,h4,_⟩
  ·exact q3 o hh
  ·obtain rfl:=hr.inj b' b _ _ _ _ h1 hb h3 q1 h4;rw[hv]at h2;cases h2
 ·rintro g o (hx|⟨b,cG,L,h1,h2,h3,rfl,_⟩)
  ·exact hr.sc g o hx
  ·exact Ix hr h1 h3
theorem KX {b:Nat} {x:bS} (hlen : σ.length<=σ'.length) (hn:∀b,b < σ.length->vis b=false->σ'[b]? = some none) :
  (jb vis 0 σ' σ)[b]? = some (some x)↔σ'[b]? = some (some x)\/vis b=false/\σ[b]? = some (some x):=by
 rw[GJ vis σ' σ 0 b hlen,br];split
 ·rename_i h;rw[hn b h.1 h.2];simp[h.2]
 ·rename_i h;constructor
  ·exact .inl
  ·rintro(h1|⟨h1,h2⟩)
   ·exact h1
   ·exact absurd ⟨(aN.1 h2).1,h1⟩ h
theorem c8.yg (hr:c8 X base σ β w) (h1:c8 (rC X vis σ β) base σ' β' w') (he:Ext 0 (fB vis 0 σ) β w σ' β' w') (hβ:∀b L,β b=some L->β' b=some L) (hlen : σ.length<=σ'.length)
  (hn:∀b,b < σ.length->vis b=false->σ'[b]? = some none) :
  c8 X base (jb vis 0 σ' σ) β' w'/\Ext 0 σ β w (jb vis 0 σ' σ) β' w'/\dK w' (MT (rC X vis σ β) σ' β') w' (MT X (jb vis 0 σ' σ) β'):=by
 have hM:∀g o,jR (jb vis 0 σ' σ) β' g o->jR σ' β' g o\/∃b cG L,σ[b]? = some (some cG)/\vis b=false/\β b=some L/\L.g=g/\cG.mut L o:=by
  rintro g o ⟨b,cG,L,m1,m2,m3,m4⟩;rcases(KX hlen hn).1 m1 with m1|⟨mv,m1⟩
  ·exact .inl ⟨b,cG,L,m1,m2,m3,m4⟩
  ·obtain⟨L',q1,_⟩:=hr.cG b cG m1;obtain rfl:=aS ((hβ b L' q1).symm.trans m2);exact .inr ⟨b,cG,L',m1,mv,q1,m3,m4⟩
 have hK:dK w' (MT (rC X vis σ β) σ' β') w' (MT X (jb vis 0 σ' σ) β'):=dK.nr λg o h=>by
  rcases h with h|h
  ·exact .inl (.inl h)
  ·rcases hM g o h with h|⟨b,cG,L,m1,mv,q1,m3,m4⟩
   ·exact .inr h
   ·exact .inl (.inr ⟨b,cG,L,m1,mv,q1,m3,.inl m4⟩)
 have QK:∀g o,jR (fB vis 0 σ) β g o->jR σ β g o:=λg o ⟨b,cG,L,m1,m2,m3,m4⟩=>⟨b,cG,L,(GH.1 m1).2,m2,m3,m4⟩;have hE:Ext 0 σ β w (jb vis 0 σ' σ) β' w':=by
  refine⟨he.os,he.tape,he.output,he.size,λg o v hc vK=>he.cell g o v hc λhm=>vK (QK g o hm),λg hg vK=>he.block g hg λo hm=>vK o (QK g o hm),λg o hm=>?_,λb hb=>by omega⟩;rcases hM g o hm with h|⟨b,cG,L,m1,mv,q1,m3,m4⟩
  ·exact(he.jq g o h).imp (QK g o) id
  ·exact .inl ⟨b,cG,L,m1,q1,m3,m4⟩
 have D7:dK w (MT X σ β) w' (MT X (jb vis 0 σ' σ) β'):=by
  refine⟨λg o v hc B8=>?_,λg es c hg B8=>?_⟩
  ·obtain⟨a1,a2⟩:=(DJ (vis:=vis) hr).cell g o v hc B8;obtain⟨a3,a4⟩:=(he.keeps hr.AU).cell g o v a1 a2;exact hK.cell g o v a3 a4
  ·obtain⟨a1,a2⟩:=(DJ (vis:=vis) hr).map g es c hg B8;obtain⟨a3,a4⟩:=(he.keeps hr.AU).map g es c a1 a2;exact hK.map g es c a3 a4
 refine⟨⟨λb hb=>h1.o_ b (by rw[OX vis σ' σ 0 hlen]at hb;exact hb),λb cG hb=>?_,λb b' x y L L' e1 e2 e3 e4 e5=>?_,dg hr.size he.size,λg o hx=>di (hr.sc g o hx) he.size,h1.gl⟩,hE,hK⟩
 ·rcases(KX hlen hn).1 hb with hb|⟨hv,hb⟩
  ·obtain⟨L,q1,q2,q3,q4⟩:=h1.cG b cG hb;exact⟨L,q1,q2,λo hx=>q3 o (.inl hx),q4.mono hK (λ_ _ h=>h) rfl⟩
  ·obtain⟨L,q1,q2,q3,q4⟩:=hr.cG b cG hb;refine⟨L,hβ b L q1,q2,q3,q4.mono D7 hβ (he.block L.g q4.lt ?_)⟩;rintro o ⟨b2,y2,L2,m1,m2,m3,m4⟩;obtain⟨mv,m1⟩:=GH.1 m1;obtain rfl:=hr.inj b2 b _ _ _ _ m1 hb m2 q1 m3;rw[hv]at mv;cases mv
 ·rcases(KX hlen hn).1 e1 with e1|⟨v1,e1⟩<;>rcases(KX hlen hn).1 e2 with e2|⟨v2,e2⟩
  ·exact h1.inj b b' x y L L' e1 e2 e3 e4 e5
  ·obtain⟨L2,q1,_,q3,_⟩:=h1.cG b x e1;obtain rfl:=aS (q1.symm.trans e3);obtain⟨L3,p1,_⟩:=hr.cG b' y e2;obtain rfl:=aS ((hβ b' L3 p1).symm.trans e4);obtain⟨o,ho⟩:=UJ (X:=X) e2 v2 p1;rw[<-e5]at ho;exact absurd ho (q3 o)
  ·obtain⟨L2,q1,_,q3,_⟩:=h1.cG b' y e2;obtain rfl:=aS (q1.symm.trans e4);obtain⟨L3,p1,_⟩:=hr.cG b x e1;obtain rfl:=aS ((hβ b L3 p1).symm.trans e3);obtain⟨o,ho⟩:=UJ (X:=X) e1 v1 p1;rw[e5]at ho;exact absurd ho (q3 o)
  ·obtain⟨L2,q1,_⟩:=hr.cG b x e1;obtain⟨L3,p1,_⟩:=hr.cG b' y e2;obtain rfl:=aS ((hβ b L2 q1).symm.trans e3);obtain rfl:=aS ((hβ b' L3 p1).symm.trans e4);exact hr.inj b b' x y _ _ e1 e2 q1 p1 e5
theorem ak.frame {F:Frame->List Frame->Sem Next->World->Value->World->Prop} {f:ah} {args:List ah} {K K':ah->av->Prop} (vis:Nat->Bool) (h:dn P F f args (fB vis 0 σ) K')
  (hk:∀r σ',K' r σ'->(∀b,b < σ.length->vis b=false->σ'[b]? = some none)/\K r (jb vis 0 σ' σ)):dn P F f args σ K:=by
 intro X base β w vf vs h1 ou h2 h3 fr cs h4;obtain⟨r,σ',β',v,w',q,g1,g2,g3,g4,g5⟩:=h (rC X vis σ β) base β w vf vs h1.AU (ou.mono (DJ h1) (λ_ _ h=>h)) h2 (λk hk=>(h3 k hk).mono (DJ h1) (λ_ _ h=>h)) fr cs h4;rw[uj]at g4;have hβ:∀b L,β b=some L->β' b=some L:=λb L hb=>by
  rw[g3.env b ?_]
  ·exact hb
  ·rw[uj];refine kq λhle=>?_;rw[h1.o_ b hle]at hb;cases hb
 obtain⟨hn,hK⟩:=hk r σ' q;obtain⟨e1,e2,e3⟩:=h1.yg g1 (g3.lower (aj _)) hβ g4 hn;refine⟨r,_,β',v,w',hK,e1,g2.mono e3 (λ_ _ h=>h),⟨e2.os,e2.tape,e2.output,e2.size,e2.cell,e2.block,e2.jq,λb hb=>g3.env b (by rw[uj];exact hb)⟩,by rw[OX _ _ _ _ g4];exact g4,g5⟩
end
end Go.dq
