/- Part 34 of my own framework and of the walks of functions: AcsI. -/
import Derived.Test.YtfjbdamcmiglgaaGreatOwn33
abbrev iF:=@Nat.lt_irrefl
set_option linter.unusedVariables false
set_option linter.unusedSectionVars false
set_option linter.unusedSimpArgs false
namespace Go.c8
open Go
section
variable {P:Program} {X:Nat→Nat→Prop} {base:Nat} {σ σ' τ:ai} {β β':Env} {w w':World}
theorem S3 {k b:Nat} {x:bE}:¬ (List.replicate k (none:Option bE))[b]? = some (some x):=by
 rw [c9];split<;>simp
theorem wB {k b:Nat} {x:bE}:(σ++List.replicate k none)[b]? = some (some x)↔σ[b]? = some (some x):=by
 by_cases h:b < σ.length
 ·rw [ck h]
 ·rw [bJ (by omega)]
  constructor
  ·exact fun e=>absurd e S3
  ·intro e;exact absurd (aI.1 e).1 (by omega)
theorem A_ {k g o:Nat}:iO (σ++List.replicate k none) β g o↔iO σ β g o:=by
 simp only [iO,wB]
theorem cC.NQ (hr:cC X base σ β w) (k:Nat):cC X base (σ++List.replicate k none) β w:=by
 have hk:df w (MT X σ β) w (MT X (σ++List.replicate k none) β):=df.lP fun g o h=>h.imp id fun hm=>A_.1 hm
 refine ⟨fun b hb=>hr.nA b (by rw [ay] at hb;omega),fun b cd hb=>?_,fun b b' x y L L' e1 e2=>hr.inj b b' x y L L' (wB.1 e1) (wB.1 e2),hr.size,hr.pW,hr.gl⟩
 obtain ⟨L,q1,q2,q3,q4⟩:=hr.cd b cd (wB.1 hb)
 exact ⟨L,q1,q2,q3,q4.mono hk (fun _ _ h=>h) rfl⟩
theorem aq.pad {F:Frame→List Frame→Sem Next→World→Value→World→Prop} {f:ae} {args:List ae} {K:ae→ai→Prop} (k:Nat) (h:dp P F f args (σ++List.replicate k none) (mz K σ.length)):dp P F f args σ K:=by
 intro X base β w vf vs h1 nB h2 h3 fr cs h4
 have hk:df w (MT X σ β) w (MT X (σ++List.replicate k none) β):=df.lP fun g o h=>h.imp id fun hm=>A_.1 hm
 obtain ⟨r,iM,mJ,v,w2,⟨lC,d1,d2,d3,d4,d5⟩,g1,g2,g3,g4,g5⟩:=h X base β w vf vs (h1.NQ k) (nB.mono hk (fun _ _ h=>h)) h2 (fun i hi=>(h3 i hi).mono hk (fun _ _ h=>h)) fr cs h4
 have Bl:=(g3.lower (lo':=σ.length) (by rw [ay];omega)).drop (uN d1) rfl d2
 exact ⟨r,lC,_,v,w2,d5,g1.drop (uN d1) rfl (qs d3),g2.drop (uN d1) rfl d4,
  ⟨Bl.os,Bl.tape,Bl.output,Bl.size,fun g o v hc hn=>Bl.cell g o v hc fun hm=>hn (A_.1 hm),fun g hg hn=>Bl.block g hg fun o hm=>hn o (A_.1 hm),fun g o hm=>(Bl.iB g o hm).imp (fun h=>A_.1 h) id,Bl.env⟩,d2,g5⟩
theorem aq.grow {F:Frame→List Frame→Sem Next→World→Value→World→Prop} {f:ae} {args:List ae} {K:ae→ai→Prop} (k:Nat) (hf:f.low σ.length) (ha:bx σ.length args) (hs:bt σ.length σ)
  (h:dp P F f args σ (fun r σ'=>σ'.length = σ.length∧K r (σ'++List.replicate k none))):dp P F f args (σ++List.replicate k none) K:=by
 intro X base β w vf vs h1 nB h2 h3 fr cs h4
 have hle:xo σ (σ++List.replicate k none):=fun b x hb=>wB.2 hb
 obtain ⟨r,iM,mJ,v,w2,⟨d1,d2⟩,g1,g2,g3,g4,g5⟩:=h X base (β.cut σ.length) w vf vs (h1.drop hle rfl (qs hs)) (nB.drop hle rfl hf) h2 (fun i hi=>(h3 i hi).drop hle rfl (iW ha i)) fr cs h4
 let ux:Env:=fun b=>if b < σ.length then mJ b else β b
 have e1:∀ b,b < σ.length→ux b = mJ b:=fun b hb=>if_pos hb
 have e2:∀ b,b < σ.length→mJ b = β b:=fun b hb=>(g3.env b hb).trans (Env.kJ hb)
 have fp:∀ b L,mJ b=some L→ux b=some L:=fun b L hb=>by
  by_cases c:b < σ.length
  ·rw [e1 b c];exact hb
  ·rw [g1.nA b (by omega)] at hb;cases hb
 have hm:∀ g o,iO (iM++List.replicate k none) ux g o↔iO iM mJ g o:=fun g o=>by
  rw [A_]
  constructor
  ·rintro ⟨b,cd,L,m1,m2,m3⟩
   have hb:b < σ.length:=by have:=(aI.1 m1).1;omega
   exact ⟨b,cd,L,m1,(e1 b hb) ▸ m2,m3⟩
  ·rintro ⟨b,cd,L,m1,m2,m3⟩
   exact ⟨b,cd,L,m1,fp b L m2,m3⟩
 have rV:∀ g o,iO σ (β.cut σ.length) g o↔iO (σ++List.replicate k none) β g o:=fun g o=>by
  rw [A_]
  constructor
  ·rintro ⟨b,cd,L,m1,m2,m3⟩
   have hb:=(aI.1 m1).1
   exact ⟨b,cd,L,m1,by rw [Env.kJ hb] at m2;exact m2,m3⟩
  ·rintro ⟨b,cd,L,m1,m2,m3⟩
   have hb:=(aI.1 m1).1
   exact ⟨b,cd,L,m1,by rw [Env.kJ hb];exact m2,m3⟩
 have hk:df w2 (MT X iM mJ) w2 (MT X (iM++List.replicate k none) ux):=df.lP fun g o h=>h.imp id fun h=>(hm g o).1 h
 refine ⟨r,_,ux,v,w2,d2,⟨fun b hb=>?_,fun b cd hb=>?_,fun b b' x y L L' m1 m2 m3 m4 hg=>?_,g1.size,g1.pW,g1.gl⟩,g2.mono hk fp,⟨g3.os,g3.tape,g3.output,g3.size,fun g o v hc hn=>g3.cell g o v hc fun h=>hn ((rV g o).1 h),fun g hg hn=>g3.block g hg fun o h=>hn o ((rV g o).1 h),
  fun g o h=>(g3.iB g o ((hm g o).1 h)).imp (fun h=>(rV g o).1 h) id,fun b hb=>?_⟩,by rw [ay,ay];omega,g5⟩
 ·rw [ay] at hb
  have:¬ b < σ.length:=by omega
  simp only [ux,if_neg this]
  exact h1.nA b (by rw [ay];rw [d1] at hb;exact hb)
 ·obtain ⟨L,q1,q2,q3,q4⟩:=g1.cd b cd (wB.1 hb)
  exact ⟨L,fp b L q1,q2,q3,q4.mono hk fp rfl⟩
 ·have l1:=(aI.1 (wB.1 m1)).1
  have l2:=(aI.1 (wB.1 m2)).1
  rw [e1 b (by omega)] at m3
  rw [e1 b' (by omega)] at m4
  exact g1.inj b b' x y L L' (wB.1 m1) (wB.1 m2) m3 m4 hg
 ·by_cases c:b < σ.length
  ·rw [e1 b c,e2 b c]
  ·simp only [ux,if_neg c]
theorem HP (n:Nat):∀ (σ τ:ai) (i:Nat),i + σ.length=n→eB (fun b=>decide (b<n)) i (σ++τ) = σ++List.replicate τ.length none
 | [],[],i,_=>rfl
 | [],t :: τ,i,h=>by
  have:=HP (i+1) [] τ (i+1) (by simp)
  simp only [bh] at this ⊢
  simp only [aR,cg] at h
  subst h
  simp only [eB,iF,decide_false,a8,if_false,ax,fw]
  rw [← this]
  congr 1
  have CQ:∀ (τ:ai) (j:Nat),i<j→eB (fun b=>decide (b<i)) j τ=eB (fun b=>decide (b<i+1)) j τ:=by
   intro τ
   induction τ with
   | nil=>intro j _;rfl
   | cons a τ ih=>intro j hj;simp only [eB,show ¬ j<i by omega,show ¬ j<i+1 by omega];rw [ih (j+1) (by omega)]
  exact CQ τ (i+1) (by omega)
 | s :: σ,τ,i,h=>by
  simp only [bj,eB]
  simp only [ax] at h
  rw [HP n σ τ (i+1) (by omega),if_pos (by simp;omega)]
theorem RY (n:Nat):∀ (σ' σ τ:ai) (i:Nat),i + σ.length=n→σ'.length = σ.length→gR (fun b=>decide (b<n)) i (σ'++List.replicate τ.length none) (σ++τ) = σ'++τ
 | [],[],[],i,_,_=>rfl
 | [],[],t :: τ,i,h,_=>by
  simp only [aR,cg] at h
  subst h
  have CQ:∀ (τ:ai) (j:Nat),i≤j→gR (fun b=>decide (b<i)) j (List.replicate τ.length none) τ = τ:=by
   intro τ
   induction τ with
   | nil=>intro j _;rfl
   | cons a τ ih=>intro j hj;simp only [ax,fw,gR,show ¬ j<i by omega,decide_false,a8,if_false];rw [ih (j+1) (by omega)]
  exact CQ (t :: τ) i (ah _)
 | s' :: σ',s :: σ,τ,i,h,h2=>by
  simp only [ax] at h h2
  simp only [bj,gR]
  rw [RY n σ' σ τ (i+1) (by omega) (by omega),if_pos (by simp;omega)]
theorem aq.tail {F:Frame→List Frame→Sem Next→World→Value→World→Prop} {f:ae} {args:List ae} {K:ae→ai→Prop} (hf:f.low σ.length) (ha:bx σ.length args) (hs:bt σ.length σ)
  (h:dp P F f args σ (fun r σ'=>σ'.length = σ.length∧K r (σ'++τ))):dp P F f args (σ++τ) K:=by
 refine aq.frame (fun b=>decide (b < σ.length)) (K':=fun r iM=>∃ σ',iM = σ'++List.replicate τ.length none∧σ'.length = σ.length∧K r (σ'++τ)) ?_ ?_
 ·rw [HP σ.length σ τ 0 (by omega)]
  refine aq.grow _ hf ha hs (h.mono fun r σ' hk=>⟨hk.1,σ',rfl,hk.1,hk.2⟩)
 ·rintro r iM ⟨σ',rfl,h1,h2⟩
  refine ⟨fun b hb hv=>?_,by rw [RY σ.length σ' σ τ 0 (by omega) h1];exact h2⟩
  simp only [decide_eq_false_iff_not] at hv
  rw [ay] at hb
  rw [bJ (by omega),c9,if_pos (by omega)]
end
theorem fx:∀ σ:ai,ic σ σ
 | []=>trivial
 | _ :: r=>⟨.inl rfl,fx r⟩
end Go.c8
