/- Part 34 of my own framework and of the walks of functions: AcsI. -/
import Derived.Test.YtfjbdamcmiglgaaGreatOwn33
abbrev ji:=@Nat.lt_irrefl
set_option linter.unusedVariables false
set_option linter.unusedSectionVars false
set_option linter.unusedSimpArgs false
namespace Go.dm
open Go
section
variable {P:Program} {X:Nat→Nat→Prop} {base:Nat} {σ σ' τ:ai} {β β':Env} {w w':World}
theorem Xn {k b:Nat} {x:bO}:¬ (List.replicate k (none:Option bO))[b]? = some (some x):=by
 rw [dv];split<;>simp
theorem xE {k b:Nat} {x:bO}:(σ++List.replicate k none)[b]? = some (some x)↔σ[b]? = some (some x):=by
 by_cases h:b < σ.length
 ·rw [cF h]
 ·rw [bT (by omega)];constructor
  ·exact fun e=>absurd e Xn
  ·intro e;exact absurd (aJ.1 e).1 (by omega)
theorem Co {k g o:Nat}:jr (σ++List.replicate k none) β g o↔jr σ β g o:=by
 simp only [jr,xE]
theorem cS.Qe (hr:cS X base σ β w) (k:Nat):cS X base (σ++List.replicate k none) β w:=by
 have hk:dD w (MT X σ β) w (MT X (σ++List.replicate k none) β):=dD.mh fun g o h=>h.imp id fun hm=>Co.1 hm;refine ⟨fun b hb=>hr.oo b (by rw [az] at hb;omega),fun b cw hb=>?_,fun b b' x y L L' e1 e2=>hr.inj b b' x y L L' (xE.1 e1) (xE.1 e2),hr.size,hr.qL,hr.gl⟩;obtain ⟨L,q1,q2,q3,q4⟩:=hr.cw b cw (xE.1 hb);exact ⟨L,q1,q2,q3,q4.mono hk (fun _ _ h=>h) rfl⟩
theorem aq.pad {F:Frame→List Frame→Sem Next→World→Value→World→Prop} {f:ah} {args:List ah} {K:ah→ai→Prop} (k:Nat) (h:dJ P F f args (σ++List.replicate k none) (na K σ.length)):dJ P F f args σ K:=by
 intro X base β w vf vs h1 oq h2 h3 fr cs h4;have hk:dD w (MT X σ β) w (MT X (σ++List.replicate k none) β):=dD.mh fun g o h=>h.imp id fun hm=>Co.1 hm;obtain ⟨r,jq,nx,v,w2,⟨lW,d1,d2,d3,d4,d5⟩,g1,g2,g3,g4,g5⟩:=h X base β w vf vs (h1.Qe k) (oq.mono hk (fun _ _ h=>h)) h2 (fun i hi=>(h3 i hi).mono hk (fun _ _ h=>h)) fr cs h4;have Cz:=(g3.lower (lo':=σ.length) (by rw [az];omega)).drop (vV d1) rfl d2;exact ⟨r,lW,_,v,w2,d5,g1.drop (vV d1) rfl (qR d3),g2.drop (vV d1) rfl d4,
  ⟨Cz.os,Cz.tape,Cz.output,Cz.size,fun g o v hc hn=>Cz.cell g o v hc fun hm=>hn (Co.1 hm),fun g hg hn=>Cz.block g hg fun o hm=>hn o (Co.1 hm),fun g o hm=>(Cz.jb g o hm).imp (fun h=>Co.1 h) id,Cz.env⟩,d2,g5⟩
theorem aq.grow {F:Frame→List Frame→Sem Next→World→Value→World→Prop} {f:ah} {args:List ah} {K:ah→ai→Prop} (k:Nat) (hf:f.low σ.length) (ha:bF σ.length args) (hs:bD σ.length σ)
  (h:dJ P F f args σ (fun r σ'=>σ'.length = σ.length∧K r (σ'++List.replicate k none))):dJ P F f args (σ++List.replicate k none) K:=by
 intro X base β w vf vs h1 oq h2 h3 fr cs h4;have hle:yB σ (σ++List.replicate k none):=fun b x hb=>xE.2 hb;obtain ⟨r,jq,nx,v,w2,⟨d1,d2⟩,g1,g2,g3,g4,g5⟩:=h X base (β.cut σ.length) w vf vs (h1.drop hle rfl (qR hs)) (oq.drop hle rfl hf) h2 (fun i hi=>(h3 i hi).drop hle rfl (jz ha i)) fr cs h4
 let vQ:Env:=fun b=>if b < σ.length then nx b else β b
 have e1:∀ b,b < σ.length→vQ b = nx b:=fun b hb=>if_pos hb;have e2:∀ b,b < σ.length→nx b = β b:=fun b hb=>(g3.env b hb).trans (Env.lx hb);have fD:∀ b L,nx b=some L→vQ b=some L:=fun b L hb=>by
  by_cases c:b < σ.length
  ·rw [e1 b c];exact hb
  ·rw [g1.oo b (by omega)] at hb;cases hb
 have hm:∀ g o,jr (jq++List.replicate k none) vQ g o↔jr jq nx g o:=fun g o=>by
  rw [Co];constructor
  ·rintro ⟨b,cw,L,m1,m2,m3⟩;have hb:b < σ.length:=by have:=(aJ.1 m1).1;omega
   exact ⟨b,cw,L,m1,(e1 b hb) ▸ m2,m3⟩
  ·rintro ⟨b,cw,L,m1,m2,m3⟩;exact ⟨b,cw,L,m1,fD b L m2,m3⟩
 have tH:∀ g o,jr σ (β.cut σ.length) g o↔jr (σ++List.replicate k none) β g o:=fun g o=>by
  rw [Co];constructor
  ·rintro ⟨b,cw,L,m1,m2,m3⟩;have hb:=(aJ.1 m1).1;exact ⟨b,cw,L,m1,by rw [Env.lx hb] at m2;exact m2,m3⟩
  ·rintro ⟨b,cw,L,m1,m2,m3⟩;have hb:=(aJ.1 m1).1;exact ⟨b,cw,L,m1,by rw [Env.lx hb];exact m2,m3⟩
 have hk:dD w2 (MT X jq nx) w2 (MT X (jq++List.replicate k none) vQ):=dD.mh fun g o h=>h.imp id fun h=>(hm g o).1 h;refine ⟨r,_,vQ,v,w2,d2,⟨fun b hb=>?_,fun b cw hb=>?_,fun b b' x y L L' m1 m2 m3 m4 hg=>?_,g1.size,g1.qL,g1.gl⟩,g2.mono hk fD,⟨g3.os,g3.tape,g3.output,g3.size,fun g o v hc hn=>g3.cell g o v hc fun h=>hn ((tH g o).1 h),fun g hg hn=>g3.block g hg fun o h=>hn o ((tH g o).1 h),
  fun g o h=>(g3.jb g o ((hm g o).1 h)).imp (fun h=>(tH g o).1 h) id,fun b hb=>?_⟩,by rw [az,az];omega,g5⟩
 ·rw [az] at hb;have:¬ b < σ.length:=by omega
  simp only [vQ,if_neg this];exact h1.oo b (by rw [az];rw [d1] at hb;exact hb)
 ·obtain ⟨L,q1,q2,q3,q4⟩:=g1.cw b cw (xE.1 hb);exact ⟨L,fD b L q1,q2,q3,q4.mono hk fD rfl⟩
 ·have l1:=(aJ.1 (xE.1 m1)).1;have l2:=(aJ.1 (xE.1 m2)).1;rw [e1 b (by omega)] at m3;rw [e1 b' (by omega)] at m4;exact g1.inj b b' x y L L' (xE.1 m1) (xE.1 m2) m3 m4 hg
 ·by_cases c:b < σ.length
  ·rw [e1 b c,e2 b c]
  ·simp only [vQ,if_neg c]
theorem Ja (n:Nat):∀ (σ τ:ai) (i:Nat),i + σ.length=n→fg (fun b=>decide (b<n)) i (σ++τ) = σ++List.replicate τ.length none
 | [],[],i,_=>rfl
 | [],t :: τ,i,h=>by
  have:=Ja (i+1) [] τ (i+1) (by simp);simp only [bn] at this ⊢;simp only [aS,cC] at h;subst h;simp only [fg,ji,decide_false,bd,if_false,ax,fZ];rw [← this];congr 1;have D5:∀ (τ:ai) (j:Nat),i<j→fg (fun b=>decide (b<i)) j τ=fg (fun b=>decide (b<i+1)) j τ:=by
   intro τ
   induction τ with
   | nil=>intro j _;rfl
   | cons a τ ih=>intro j hj;simp only [fg,show ¬ j<i by omega,show ¬ j<i+1 by omega];rw [ih (j+1) (by omega)]
  exact D5 τ (i+1) (by omega)
 | s :: σ,τ,i,h=>by
  simp only [bp,fg];simp only [ax] at h;rw [Ja n σ τ (i+1) (by omega),if_pos (by simp;omega)]
theorem UG (n:Nat):∀ (σ' σ τ:ai) (i:Nat),i + σ.length=n→σ'.length = σ.length→iA (fun b=>decide (b<n)) i (σ'++List.replicate τ.length none) (σ++τ) = σ'++τ
 | [],[],[],i,_,_=>rfl
 | [],[],t :: τ,i,h,_=>by
  simp only [aS,cC] at h;subst h;have D5:∀ (τ:ai) (j:Nat),i≤j→iA (fun b=>decide (b<i)) j (List.replicate τ.length none) τ = τ:=by
   intro τ
   induction τ with
   | nil=>intro j _;rfl
   | cons a τ ih=>intro j hj;simp only [ax,fZ,iA,show ¬ j<i by omega,decide_false,bd,if_false];rw [ih (j+1) (by omega)]
  exact D5 (t :: τ) i (ae _)
 | s' :: σ',s :: σ,τ,i,h,h2=>by
  simp only [ax] at h h2;simp only [bp,iA];rw [UG n σ' σ τ (i+1) (by omega) (by omega),if_pos (by simp;omega)]
theorem aq.tail {F:Frame→List Frame→Sem Next→World→Value→World→Prop} {f:ah} {args:List ah} {K:ah→ai→Prop} (hf:f.low σ.length) (ha:bF σ.length args) (hs:bD σ.length σ)
  (h:dJ P F f args σ (fun r σ'=>σ'.length = σ.length∧K r (σ'++τ))):dJ P F f args (σ++τ) K:=by
 refine aq.frame (fun b=>decide (b < σ.length)) (K':=fun r jq=>∃ σ',jq = σ'++List.replicate τ.length none∧σ'.length = σ.length∧K r (σ'++τ)) ?_ ?_
 ·rw [Ja σ.length σ τ 0 (by omega)];refine aq.grow _ hf ha hs (h.mono fun r σ' hk=>⟨hk.1,σ',rfl,hk.1,hk.2⟩)
 ·rintro r jq ⟨σ',rfl,h1,h2⟩;refine ⟨fun b hb hv=>?_,by rw [UG σ.length σ' σ τ 0 (by omega) h1];exact h2⟩;simp only [decide_eq_false_iff_not] at hv;rw [az] at hb;rw [bT (by omega),dv,if_pos (by omega)]
end
theorem f_:∀ σ:ai,iP σ σ
 | []=>trivial
 | _ :: r=>⟨.inl rfl,f_ r⟩
end Go.dm
