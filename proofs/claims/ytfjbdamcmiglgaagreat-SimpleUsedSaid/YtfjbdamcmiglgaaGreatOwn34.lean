/- Part 34 of my own framework and of the walks of functions: AcsI. -/
import Derived.Test.YtfjbdamcmiglgaaGreatOwn33
abbrev iH:=@Nat.lt_irrefl
set_option linter.unusedVariables false
set_option linter.unusedSectionVars false
set_option linter.unusedSimpArgs false
namespace Go.cV
open Go
section
variable {P:Program} {X:Nat→Nat→Prop} {base:Nat} {σ σ' τ:ai} {β β':Env} {w w':World}
theorem TV {k b:Nat} {x:bE}:¬ (List.replicate k (none:Option bE))[b]? = some (some x):=by
 rw [c8];split<;>simp
theorem wI {k b:Nat} {x:bE}:(σ++List.replicate k none)[b]? = some (some x)↔σ[b]? = some (some x):=by
 by_cases h:b < σ.length
 ·rw [cm h]
 ·rw [bI (by omega)]
  constructor
  ·exact fun e=>absurd e TV
  ·intro e;exact absurd (aH.1 e).1 (by omega)
theorem Bh {k g o:Nat}:iQ (σ++List.replicate k none) β g o↔iQ σ β g o:=by
 simp only [iQ,wI]
theorem cF.N5 (hr:cF X base σ β w) (k:Nat):cF X base (σ++List.replicate k none) β w:=by
 have hk:dg w (MT X σ β) w (MT X (σ++List.replicate k none) β):=dg.lM fun g o h=>h.imp id fun hm=>Bh.1 hm
 refine ⟨fun b hb=>hr.nC b (by rw [ay] at hb;omega),fun b cf hb=>?_,fun b b' x y L L' e1 e2=>hr.inj b b' x y L L' (wI.1 e1) (wI.1 e2),hr.size,hr.p6,hr.gl⟩
 obtain ⟨L,q1,q2,q3,q4⟩:=hr.cf b cf (wI.1 hb)
 exact ⟨L,q1,q2,q3,q4.mono hk (fun _ _ h=>h) rfl⟩
theorem aq.pad {F:Frame→List Frame→Sem Next→World→Value→World→Prop} {f:ae} {args:List ae} {K:ae→ai→Prop} (k:Nat) (h:dt P F f args (σ++List.replicate k none) (my K σ.length)):dt P F f args σ K:=by
 intro X base β w vf vs h1 nD h2 h3 fr cs h4
 have hk:dg w (MT X σ β) w (MT X (σ++List.replicate k none) β):=dg.lM fun g o h=>h.imp id fun hm=>Bh.1 hm
 obtain ⟨r,iO,mI,v,w2,⟨ly,d1,d2,d3,d4,d5⟩,g1,g2,g3,g4,g5⟩:=h X base β w vf vs (h1.N5 k) (nD.mono hk (fun _ _ h=>h)) h2 (fun i hi=>(h3 i hi).mono hk (fun _ _ h=>h)) fr cs h4
 have Br:=(g3.lower (lo':=σ.length) (by rw [ay];omega)).drop (u0 d1) rfl d2
 exact ⟨r,ly,_,v,w2,d5,g1.drop (u0 d1) rfl (qA d3),g2.drop (u0 d1) rfl d4,
  ⟨Br.os,Br.tape,Br.output,Br.size,fun g o v hc hn=>Br.cell g o v hc fun hm=>hn (Bh.1 hm),fun g hg hn=>Br.block g hg fun o hm=>hn o (Bh.1 hm),fun g o hm=>(Br.iC g o hm).imp (fun h=>Bh.1 h) id,Br.env⟩,d2,g5⟩
theorem aq.grow {F:Frame→List Frame→Sem Next→World→Value→World→Prop} {f:ae} {args:List ae} {K:ae→ai→Prop} (k:Nat) (hf:f.low σ.length) (ha:bx σ.length args) (hs:bt σ.length σ)
  (h:dt P F f args σ (fun r σ'=>σ'.length = σ.length∧K r (σ'++List.replicate k none))):dt P F f args (σ++List.replicate k none) K:=by
 intro X base β w vf vs h1 nD h2 h3 fr cs h4
 have hle:xx σ (σ++List.replicate k none):=fun b x hb=>wI.2 hb
 obtain ⟨r,iO,mI,v,w2,⟨d1,d2⟩,g1,g2,g3,g4,g5⟩:=h X base (β.cut σ.length) w vf vs (h1.drop hle rfl (qA hs)) (nD.drop hle rfl hf) h2 (fun i hi=>(h3 i hi).drop hle rfl (iX ha i)) fr cs h4
 let uJ:Env:=fun b=>if b < σ.length then mI b else β b
 have e1:∀ b,b < σ.length→uJ b = mI b:=fun b hb=>if_pos hb
 have e2:∀ b,b < σ.length→mI b = β b:=fun b hb=>(g3.env b hb).trans (Env.kH hb)
 have fh:∀ b L,mI b=some L→uJ b=some L:=fun b L hb=>by
  by_cases c:b < σ.length
  ·rw [e1 b c];exact hb
  ·rw [g1.nC b (by omega)] at hb;cases hb
 have hm:∀ g o,iQ (iO++List.replicate k none) uJ g o↔iQ iO mI g o:=fun g o=>by
  rw [Bh]
  constructor
  ·rintro ⟨b,cf,L,m1,m2,m3⟩
   have hb:b < σ.length:=by have:=(aH.1 m1).1;omega
   exact ⟨b,cf,L,m1,(e1 b hb) ▸ m2,m3⟩
  ·rintro ⟨b,cf,L,m1,m2,m3⟩
   exact ⟨b,cf,L,m1,fh b L m2,m3⟩
 have sc:∀ g o,iQ σ (β.cut σ.length) g o↔iQ (σ++List.replicate k none) β g o:=fun g o=>by
  rw [Bh]
  constructor
  ·rintro ⟨b,cf,L,m1,m2,m3⟩
   have hb:=(aH.1 m1).1
   exact ⟨b,cf,L,m1,by rw [Env.kH hb] at m2;exact m2,m3⟩
  ·rintro ⟨b,cf,L,m1,m2,m3⟩
   have hb:=(aH.1 m1).1
   exact ⟨b,cf,L,m1,by rw [Env.kH hb];exact m2,m3⟩
 have hk:dg w2 (MT X iO mI) w2 (MT X (iO++List.replicate k none) uJ):=dg.lM fun g o h=>h.imp id fun h=>(hm g o).1 h
 refine ⟨r,_,uJ,v,w2,d2,⟨fun b hb=>?_,fun b cf hb=>?_,fun b b' x y L L' m1 m2 m3 m4 hg=>?_,g1.size,g1.p6,g1.gl⟩,g2.mono hk fh,⟨g3.os,g3.tape,g3.output,g3.size,fun g o v hc hn=>g3.cell g o v hc fun h=>hn ((sc g o).1 h),fun g hg hn=>g3.block g hg fun o h=>hn o ((sc g o).1 h),
  fun g o h=>(g3.iC g o ((hm g o).1 h)).imp (fun h=>(sc g o).1 h) id,fun b hb=>?_⟩,by rw [ay,ay];omega,g5⟩
 ·rw [ay] at hb
  have:¬ b < σ.length:=by omega
  simp only [uJ,if_neg this]
  exact h1.nC b (by rw [ay];rw [d1] at hb;exact hb)
 ·obtain ⟨L,q1,q2,q3,q4⟩:=g1.cf b cf (wI.1 hb)
  exact ⟨L,fh b L q1,q2,q3,q4.mono hk fh rfl⟩
 ·have l1:=(aH.1 (wI.1 m1)).1
  have l2:=(aH.1 (wI.1 m2)).1
  rw [e1 b (by omega)] at m3
  rw [e1 b' (by omega)] at m4
  exact g1.inj b b' x y L L' (wI.1 m1) (wI.1 m2) m3 m4 hg
 ·by_cases c:b < σ.length
  ·rw [e1 b c,e2 b c]
  ·simp only [uJ,if_neg c]
theorem HM (n:Nat):∀ (σ τ:ai) (i:Nat),i + σ.length=n→eF (fun b=>decide (b<n)) i (σ++τ) = σ++List.replicate τ.length none
 | [],[],i,_=>rfl
 | [],t :: τ,i,h=>by
  have:=HM (i+1) [] τ (i+1) (by simp)
  simp only [bf] at this ⊢
  simp only [aR,cj] at h
  subst h
  simp only [eF,iH,decide_false,a8,if_false,au,fw]
  rw [← this]
  congr 1
  have C1:∀ (τ:ai) (j:Nat),i<j→eF (fun b=>decide (b<i)) j τ=eF (fun b=>decide (b<i+1)) j τ:=by
   intro τ
   induction τ with
   | nil=>intro j _;rfl
   | cons a τ ih=>intro j hj;simp only [eF,show ¬ j<i by omega,show ¬ j<i+1 by omega];rw [ih (j+1) (by omega)]
  exact C1 τ (i+1) (by omega)
 | s :: σ,τ,i,h=>by
  simp only [bj,eF]
  simp only [au] at h
  rw [HM n σ τ (i+1) (by omega),if_pos (by simp;omega)]
theorem Tb (n:Nat):∀ (σ' σ τ:ai) (i:Nat),i + σ.length=n→σ'.length = σ.length→gQ (fun b=>decide (b<n)) i (σ'++List.replicate τ.length none) (σ++τ) = σ'++τ
 | [],[],[],i,_,_=>rfl
 | [],[],t :: τ,i,h,_=>by
  simp only [aR,cj] at h
  subst h
  have C1:∀ (τ:ai) (j:Nat),i≤j→gQ (fun b=>decide (b<i)) j (List.replicate τ.length none) τ = τ:=by
   intro τ
   induction τ with
   | nil=>intro j _;rfl
   | cons a τ ih=>intro j hj;simp only [au,fw,gQ,show ¬ j<i by omega,decide_false,a8,if_false];rw [ih (j+1) (by omega)]
  exact C1 (t :: τ) i (ah _)
 | s' :: σ',s :: σ,τ,i,h,h2=>by
  simp only [au] at h h2
  simp only [bj,gQ]
  rw [Tb n σ' σ τ (i+1) (by omega) (by omega),if_pos (by simp;omega)]
theorem aq.tail {F:Frame→List Frame→Sem Next→World→Value→World→Prop} {f:ae} {args:List ae} {K:ae→ai→Prop} (hf:f.low σ.length) (ha:bx σ.length args) (hs:bt σ.length σ)
  (h:dt P F f args σ (fun r σ'=>σ'.length = σ.length∧K r (σ'++τ))):dt P F f args (σ++τ) K:=by
 refine aq.frame (fun b=>decide (b < σ.length)) (K':=fun r iO=>∃ σ',iO = σ'++List.replicate τ.length none∧σ'.length = σ.length∧K r (σ'++τ)) ?_ ?_
 ·rw [HM σ.length σ τ 0 (by omega)]
  refine aq.grow _ hf ha hs (h.mono fun r σ' hk=>⟨hk.1,σ',rfl,hk.1,hk.2⟩)
 ·rintro r iO ⟨σ',rfl,h1,h2⟩
  refine ⟨fun b hb hv=>?_,by rw [Tb σ.length σ' σ τ 0 (by omega) h1];exact h2⟩
  simp only [decide_eq_false_iff_not] at hv
  rw [ay] at hb
  rw [bI (by omega),c8,if_pos (by omega)]
end
theorem fx:∀ σ:ai,ig σ σ
 | []=>trivial
 | _ :: r=>⟨.inl rfl,fx r⟩
end Go.cV
