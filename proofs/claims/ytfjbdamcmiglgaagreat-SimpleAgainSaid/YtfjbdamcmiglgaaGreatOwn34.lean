/- Part 34 of my own framework and of the walks of functions: AcsI. -/
import Derived.Test.YtfjbdamcmiglgaaGreatOwn33
abbrev iQ:=@Nat.lt_irrefl
set_option linter.unusedVariables false
set_option linter.unusedSectionVars false
set_option linter.unusedSimpArgs false
namespace Go.c8
open Go
section
variable {P:Program} {X:Nat→Nat→Prop} {base:Nat} {σ σ' τ:ai} {β β':Env} {w w':World}
theorem Uo {k b:Nat} {x:bE}:¬ (List.replicate k (none:Option bE))[b]? = some (some x):=by
 rw [db];split<;>simp
theorem wS {k b:Nat} {x:bE}:(σ++List.replicate k none)[b]? = some (some x)↔σ[b]? = some (some x):=by
 by_cases h:b < σ.length
 ·rw [cn h]
 ·rw [bK (by omega)]
  constructor
  ·exact fun e=>absurd e Uo
  ·intro e;exact absurd (aI.1 e).1 (by omega)
theorem Bt {k g o:Nat}:ja (σ++List.replicate k none) β g o↔ja σ β g o:=by
 simp only [ja,wS]
theorem cH.Ox (hr:cH X base σ β w) (k:Nat):cH X base (σ++List.replicate k none) β w:=by
 have hk:di w (MT X σ β) w (MT X (σ++List.replicate k none) β):=di.l5 fun g o h=>h.imp id fun hm=>Bt.1 hm
 refine ⟨fun b hb=>hr.nO b (by rw [ay] at hb;omega),fun b cg hb=>?_,fun b b' x y L L' e1 e2=>hr.inj b b' x y L L' (wS.1 e1) (wS.1 e2),hr.size,hr.qd,hr.gl⟩
 obtain ⟨L,q1,q2,q3,q4⟩:=hr.cg b cg (wS.1 hb)
 exact ⟨L,q1,q2,q3,q4.mono hk (fun _ _ h=>h) rfl⟩
theorem aq.pad {F:Frame→List Frame→Sem Next→World→Value→World→Prop} {f:ae} {args:List ae} {K:ae→ai→Prop} (k:Nat) (h:dv P F f args (σ++List.replicate k none) (mJ K σ.length)):dv P F f args σ K:=by
 intro X base β w vf vs h1 nP h2 h3 fr cs h4
 have hk:di w (MT X σ β) w (MT X (σ++List.replicate k none) β):=di.l5 fun g o h=>h.imp id fun hm=>Bt.1 hm
 obtain ⟨r,iZ,mV,v,w2,⟨lO,d1,d2,d3,d4,d5⟩,g1,g2,g3,g4,g5⟩:=h X base β w vf vs (h1.Ox k) (nP.mono hk (fun _ _ h=>h)) h2 (fun i hi=>(h3 i hi).mono hk (fun _ _ h=>h)) fr cs h4
 have BF:=(g3.lower (lo':=σ.length) (by rw [ay];omega)).drop (vj d1) rfl d2
 exact ⟨r,lO,_,v,w2,d5,g1.drop (vj d1) rfl (qL d3),g2.drop (vj d1) rfl d4,
  ⟨BF.os,BF.tape,BF.output,BF.size,fun g o v hc hn=>BF.cell g o v hc fun hm=>hn (Bt.1 hm),fun g hg hn=>BF.block g hg fun o hm=>hn o (Bt.1 hm),fun g o hm=>(BF.iL g o hm).imp (fun h=>Bt.1 h) id,BF.env⟩,d2,g5⟩
theorem aq.grow {F:Frame→List Frame→Sem Next→World→Value→World→Prop} {f:ae} {args:List ae} {K:ae→ai→Prop} (k:Nat) (hf:f.low σ.length) (ha:bz σ.length args) (hs:bw σ.length σ)
  (h:dv P F f args σ (fun r σ'=>σ'.length = σ.length∧K r (σ'++List.replicate k none))):dv P F f args (σ++List.replicate k none) K:=by
 intro X base β w vf vs h1 nP h2 h3 fr cs h4
 have hle:xI σ (σ++List.replicate k none):=fun b x hb=>wS.2 hb
 obtain ⟨r,iZ,mV,v,w2,⟨d1,d2⟩,g1,g2,g3,g4,g5⟩:=h X base (β.cut σ.length) w vf vs (h1.drop hle rfl (qL hs)) (nP.drop hle rfl hf) h2 (fun i hi=>(h3 i hi).drop hle rfl (ji ha i)) fr cs h4
 let uP:Env:=fun b=>if b < σ.length then mV b else β b
 have e1:∀ b,b < σ.length→uP b = mV b:=fun b hb=>if_pos hb
 have e2:∀ b,b < σ.length→mV b = β b:=fun b hb=>(g3.env b hb).trans (Env.kY hb)
 have fE:∀ b L,mV b=some L→uP b=some L:=fun b L hb=>by
  by_cases c:b < σ.length
  ·rw [e1 b c];exact hb
  ·rw [g1.nO b (by omega)] at hb;cases hb
 have hm:∀ g o,ja (iZ++List.replicate k none) uP g o↔ja iZ mV g o:=fun g o=>by
  rw [Bt]
  constructor
  ·rintro ⟨b,cg,L,m1,m2,m3⟩
   have hb:b < σ.length:=by have:=(aI.1 m1).1;omega
   exact ⟨b,cg,L,m1,(e1 b hb) ▸ m2,m3⟩
  ·rintro ⟨b,cg,L,m1,m2,m3⟩
   exact ⟨b,cg,L,m1,fE b L m2,m3⟩
 have sw:∀ g o,ja σ (β.cut σ.length) g o↔ja (σ++List.replicate k none) β g o:=fun g o=>by
  rw [Bt]
  constructor
  ·rintro ⟨b,cg,L,m1,m2,m3⟩
   have hb:=(aI.1 m1).1
   exact ⟨b,cg,L,m1,by rw [Env.kY hb] at m2;exact m2,m3⟩
  ·rintro ⟨b,cg,L,m1,m2,m3⟩
   have hb:=(aI.1 m1).1
   exact ⟨b,cg,L,m1,by rw [Env.kY hb];exact m2,m3⟩
 have hk:di w2 (MT X iZ mV) w2 (MT X (iZ++List.replicate k none) uP):=di.l5 fun g o h=>h.imp id fun h=>(hm g o).1 h
 refine ⟨r,_,uP,v,w2,d2,⟨fun b hb=>?_,fun b cg hb=>?_,fun b b' x y L L' m1 m2 m3 m4 hg=>?_,g1.size,g1.qd,g1.gl⟩,g2.mono hk fE,⟨g3.os,g3.tape,g3.output,g3.size,fun g o v hc hn=>g3.cell g o v hc fun h=>hn ((sw g o).1 h),fun g hg hn=>g3.block g hg fun o h=>hn o ((sw g o).1 h),
  fun g o h=>(g3.iL g o ((hm g o).1 h)).imp (fun h=>(sw g o).1 h) id,fun b hb=>?_⟩,by rw [ay,ay];omega,g5⟩
 ·rw [ay] at hb
  have:¬ b < σ.length:=by omega
  simp only [uP,if_neg this]
  exact h1.nO b (by rw [ay];rw [d1] at hb;exact hb)
 ·obtain ⟨L,q1,q2,q3,q4⟩:=g1.cg b cg (wS.1 hb)
  exact ⟨L,fE b L q1,q2,q3,q4.mono hk fE rfl⟩
 ·have l1:=(aI.1 (wS.1 m1)).1
  have l2:=(aI.1 (wS.1 m2)).1
  rw [e1 b (by omega)] at m3
  rw [e1 b' (by omega)] at m4
  exact g1.inj b b' x y L L' (wS.1 m1) (wS.1 m2) m3 m4 hg
 ·by_cases c:b < σ.length
  ·rw [e1 b c,e2 b c]
  ·simp only [uP,if_neg c]
theorem Ia (n:Nat):∀ (σ τ:ai) (i:Nat),i + σ.length=n→eJ (fun b=>decide (b<n)) i (σ++τ) = σ++List.replicate τ.length none
 | [],[],i,_=>rfl
 | [],t :: τ,i,h=>by
  have:=Ia (i+1) [] τ (i+1) (by simp)
  simp only [bh] at this ⊢
  simp only [aS,ck] at h
  subst h
  simp only [eJ,iQ,decide_false,a_,if_false,ax,fM]
  rw [← this]
  congr 1
  have Da:∀ (τ:ai) (j:Nat),i<j→eJ (fun b=>decide (b<i)) j τ=eJ (fun b=>decide (b<i+1)) j τ:=by
   intro τ
   induction τ with
   | nil=>intro j _;rfl
   | cons a τ ih=>intro j hj;simp only [eJ,show ¬ j<i by omega,show ¬ j<i+1 by omega];rw [ih (j+1) (by omega)]
  exact Da τ (i+1) (by omega)
 | s :: σ,τ,i,h=>by
  simp only [bn,eJ]
  simp only [ax] at h
  rw [Ia n σ τ (i+1) (by omega),if_pos (by simp;omega)]
theorem S4 (n:Nat):∀ (σ' σ τ:ai) (i:Nat),i + σ.length=n→σ'.length = σ.length→hO (fun b=>decide (b<n)) i (σ'++List.replicate τ.length none) (σ++τ) = σ'++τ
 | [],[],[],i,_,_=>rfl
 | [],[],t :: τ,i,h,_=>by
  simp only [aS,ck] at h
  subst h
  have Da:∀ (τ:ai) (j:Nat),i≤j→hO (fun b=>decide (b<i)) j (List.replicate τ.length none) τ = τ:=by
   intro τ
   induction τ with
   | nil=>intro j _;rfl
   | cons a τ ih=>intro j hj;simp only [ax,fM,hO,show ¬ j<i by omega,decide_false,a_,if_false];rw [ih (j+1) (by omega)]
  exact Da (t :: τ) i (ah _)
 | s' :: σ',s :: σ,τ,i,h,h2=>by
  simp only [ax] at h h2
  simp only [bn,hO]
  rw [S4 n σ' σ τ (i+1) (by omega) (by omega),if_pos (by simp;omega)]
theorem aq.tail {F:Frame→List Frame→Sem Next→World→Value→World→Prop} {f:ae} {args:List ae} {K:ae→ai→Prop} (hf:f.low σ.length) (ha:bz σ.length args) (hs:bw σ.length σ)
  (h:dv P F f args σ (fun r σ'=>σ'.length = σ.length∧K r (σ'++τ))):dv P F f args (σ++τ) K:=by
 refine aq.frame (fun b=>decide (b < σ.length)) (K':=fun r iZ=>∃ σ',iZ = σ'++List.replicate τ.length none∧σ'.length = σ.length∧K r (σ'++τ)) ?_ ?_
 ·rw [Ia σ.length σ τ 0 (by omega)]
  refine aq.grow _ hf ha hs (h.mono fun r σ' hk=>⟨hk.1,σ',rfl,hk.1,hk.2⟩)
 ·rintro r iZ ⟨σ',rfl,h1,h2⟩
  refine ⟨fun b hb hv=>?_,by rw [S4 σ.length σ' σ τ 0 (by omega) h1];exact h2⟩
  simp only [decide_eq_false_iff_not] at hv
  rw [ay] at hb
  rw [bK (by omega),db,if_pos (by omega)]
end
theorem fN:∀ σ:ai,iy σ σ
 | []=>trivial
 | _ :: r=>⟨.inl rfl,fN r⟩
end Go.c8
