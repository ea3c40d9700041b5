/- Part 34 of my own framework and of the walks of functions: AcsI. -/
import Derived.Test.YtpgnahcljlclcaaGreatOwn33
set_option linter.unusedVariables false
set_option linter.unusedSectionVars false
set_option linter.unusedSimpArgs false
namespace Go.Abs
open Go
section
variable {P:Program} {X:Nat→Nat→Prop} {base:Nat} {σ σ' τ:Store} {β β':Env} {w w':World}
theorem Zto {k b:Nat} {x:Blk}:¬ (List.replicate k (none:Option Blk))[b]? = some (some x):=by
 rw [List.getElem?_replicate];split<;>simp
theorem Zc1 {k b:Nat} {x:Blk}:(σ++List.replicate k none)[b]? = some (some x)↔σ[b]? = some (some x):=by
 by_cases h:b < σ.length
 ·rw [List.getElem?_append_left h]
 ·rw [List.getElem?_append_right (by omega)]
  constructor
  ·exact fun e=>absurd e Zto
  ·intro e;exact absurd (List.getElem?_eq_some_iff.1 e).1 (by omega)
theorem Zdp {k g o:Nat}:Mof (σ++List.replicate k none) β g o↔Mof σ β g o:=by
 simp only [Mof,Zc1]
theorem RelS.padN (hr:RelS X base σ β w) (k:Nat):RelS X base (σ++List.replicate k none) β w:=by
 have hk:Keeps w (MT X σ β) w (MT X (σ++List.replicate k none) β):=Keeps.anti fun g o h=>h.imp id fun hm=>Zdp.1 hm
 refine ⟨fun b hb=>hr.dom b (by rw [List.length_append] at hb;omega),fun b blk hb=>?_,fun b b' x y L L' e1 e2=>hr.inj b b' x y L L' (Zc1.1 e1) (Zc1.1 e2),hr.size,hr.xlt,hr.gl⟩
 obtain ⟨L,q1,q2,q3,q4⟩:=hr.blk b blk (Zc1.1 hb)
 exact ⟨L,q1,q2,q3,q4.mono hk (fun _ _ h=>h) rfl⟩
theorem VCall.pad {F:Frame→List Frame→Sem Next→World→Value→World→Prop} {f:AVal} {args:List AVal} {K:AVal→Store→Prop} (k:Nat) (h:VCallG P F f args (σ++List.replicate k none) (dropK K σ.length)):VCallG P F f args σ K:=by
 intro X base β w vf vs h1 h1' h2 h3 fr cs h4
 have hk:Keeps w (MT X σ β) w (MT X (σ++List.replicate k none) β):=Keeps.anti fun g o h=>h.imp id fun hm=>Zdp.1 hm
 obtain ⟨r,σ2,β2,v,w2,⟨σ3,d1,d2,d3,d4,d5⟩,g1,g2,g3,g4,g5⟩:=h X base β w vf vs (h1.padN k) (h1'.mono hk (fun _ _ h=>h)) h2 (fun i hi=>(h3 i hi).mono hk (fun _ _ h=>h)) fr cs h4
 have g3':=(g3.lower (lo':=σ.length) (by rw [List.length_append];omega)).drop (Zbu d1) rfl d2
 exact ⟨r,σ3,_,v,w2,d5,g1.drop (Zbu d1) rfl (Zat d3),g2.drop (Zbu d1) rfl d4,
  ⟨g3'.os,g3'.tape,g3'.output,g3'.size,fun g o v hc hn=>g3'.cell g o v hc fun hm=>hn (Zdp.1 hm),fun g hg hn=>g3'.block g hg fun o hm=>hn o (Zdp.1 hm),fun g o hm=>(g3'.newM g o hm).imp (fun h=>Zdp.1 h) id,g3'.env⟩,d2,g5⟩
theorem VCall.grow {F:Frame→List Frame→Sem Next→World→Value→World→Prop} {f:AVal} {args:List AVal} {K:AVal→Store→Prop} (k:Nat) (hf:f.low σ.length) (ha:lowL σ.length args) (hs:lowSo σ.length σ)
  (h:VCallG P F f args σ (fun r σ'=>σ'.length = σ.length∧K r (σ'++List.replicate k none))):VCallG P F f args (σ++List.replicate k none) K:=by
 intro X base β w vf vs h1 h1' h2 h3 fr cs h4
 have hle:leS σ (σ++List.replicate k none):=fun b x hb=>Zc1.2 hb
 obtain ⟨r,σ2,β2,v,w2,⟨d1,d2⟩,g1,g2,g3,g4,g5⟩:=h X base (β.cut σ.length) w vf vs (h1.drop hle rfl (Zat hs)) (h1'.drop hle rfl hf) h2 (fun i hi=>(h3 i hi).drop hle rfl (Zaa ha i)) fr cs h4
 let β3:Env:=fun b=>if b < σ.length then β2 b else β b
 have e1:∀ b,b < σ.length→β3 b = β2 b:=fun b hb=>if_pos hb
 have e2:∀ b,b < σ.length→β2 b = β b:=fun b hb=>(g3.env b hb).trans (Env.cut_lt hb)
 have hin:∀ b L,β2 b=some L→β3 b=some L:=fun b L hb=>by
  by_cases c:b < σ.length
  ·rw [e1 b c];exact hb
  ·rw [g1.dom b (by omega)] at hb;cases hb
 have hm:∀ g o,Mof (σ2++List.replicate k none) β3 g o↔Mof σ2 β2 g o:=fun g o=>by
  rw [Zdp]
  constructor
  ·rintro ⟨b,blk,L,m1,m2,m3⟩
   have hb:b < σ.length:=by have:=(List.getElem?_eq_some_iff.1 m1).1;omega
   exact ⟨b,blk,L,m1,(e1 b hb) ▸ m2,m3⟩
  ·rintro ⟨b,blk,L,m1,m2,m3⟩
   exact ⟨b,blk,L,m1,hin b L m2,m3⟩
 have hm0:∀ g o,Mof σ (β.cut σ.length) g o↔Mof (σ++List.replicate k none) β g o:=fun g o=>by
  rw [Zdp]
  constructor
  ·rintro ⟨b,blk,L,m1,m2,m3⟩
   have hb:=(List.getElem?_eq_some_iff.1 m1).1
   exact ⟨b,blk,L,m1,by rw [Env.cut_lt hb] at m2;exact m2,m3⟩
  ·rintro ⟨b,blk,L,m1,m2,m3⟩
   have hb:=(List.getElem?_eq_some_iff.1 m1).1
   exact ⟨b,blk,L,m1,by rw [Env.cut_lt hb];exact m2,m3⟩
 have hk:Keeps w2 (MT X σ2 β2) w2 (MT X (σ2++List.replicate k none) β3):=Keeps.anti fun g o h=>h.imp id fun h=>(hm g o).1 h
 refine ⟨r,_,β3,v,w2,d2,⟨fun b hb=>?_,fun b blk hb=>?_,fun b b' x y L L' m1 m2 m3 m4 hg=>?_,g1.size,g1.xlt,g1.gl⟩,g2.mono hk hin,⟨g3.os,g3.tape,g3.output,g3.size,fun g o v hc hn=>g3.cell g o v hc fun h=>hn ((hm0 g o).1 h),fun g hg hn=>g3.block g hg fun o h=>hn o ((hm0 g o).1 h),
  fun g o h=>(g3.newM g o ((hm g o).1 h)).imp (fun h=>(hm0 g o).1 h) id,fun b hb=>?_⟩,by rw [List.length_append,List.length_append];omega,g5⟩
 ·rw [List.length_append] at hb
  have:¬ b < σ.length:=by omega
  simp only [β3,if_neg this]
  exact h1.dom b (by rw [List.length_append];rw [d1] at hb;exact hb)
 ·obtain ⟨L,q1,q2,q3,q4⟩:=g1.blk b blk (Zc1.1 hb)
  exact ⟨L,hin b L q1,q2,q3,q4.mono hk hin rfl⟩
 ·have l1:=(List.getElem?_eq_some_iff.1 (Zc1.1 m1)).1
  have l2:=(List.getElem?_eq_some_iff.1 (Zc1.1 m2)).1
  rw [e1 b (by omega)] at m3
  rw [e1 b' (by omega)] at m4
  exact g1.inj b b' x y L L' (Zc1.1 m1) (Zc1.1 m2) m3 m4 hg
 ·by_cases c:b < σ.length
  ·rw [e1 b c,e2 b c]
  ·simp only [β3,if_neg c]
theorem Zhi (n:Nat):∀ (σ τ:Store) (i:Nat),i + σ.length=n→maskS (fun b=>decide (b<n)) i (σ++τ) = σ++List.replicate τ.length none
 | [],[],i,_=>rfl
 | [],t :: τ,i,h=>by
  have:=Zhi (i+1) [] τ (i+1) (by simp)
  simp only [List.nil_append] at this ⊢
  simp only [List.length_nil,Nat.add_zero] at h
  subst h
  simp only [maskS,Nat.lt_irrefl,decide_false,Bool.false_eq_true,if_false,List.length_cons,List.replicate_succ]
  rw [← this]
  congr 1
  have hgen:∀ (τ:Store) (j:Nat),i<j→maskS (fun b=>decide (b<i)) j τ=maskS (fun b=>decide (b<i+1)) j τ:=by
   intro τ
   induction τ with
   | nil=>intro j _;rfl
   | cons a τ ih=>intro j hj;simp only [maskS,show ¬ j<i by omega,show ¬ j<i+1 by omega];rw [ih (j+1) (by omega)]
  exact hgen τ (i+1) (by omega)
 | s :: σ,τ,i,h=>by
  simp only [List.cons_append,maskS]
  simp only [List.length_cons] at h
  rw [Zhi n σ τ (i+1) (by omega),if_pos (by simp;omega)]
theorem Zpv (n:Nat):∀ (σ' σ τ:Store) (i:Nat),i + σ.length=n→σ'.length = σ.length→backS (fun b=>decide (b<n)) i (σ'++List.replicate τ.length none) (σ++τ) = σ'++τ
 | [],[],[],i,_,_=>rfl
 | [],[],t :: τ,i,h,_=>by
  simp only [List.length_nil,Nat.add_zero] at h
  subst h
  have hgen:∀ (τ:Store) (j:Nat),i≤j→backS (fun b=>decide (b<i)) j (List.replicate τ.length none) τ = τ:=by
   intro τ
   induction τ with
   | nil=>intro j _;rfl
   | cons a τ ih=>intro j hj;simp only [List.length_cons,List.replicate_succ,backS,show ¬ j<i by omega,decide_false,Bool.false_eq_true,if_false];rw [ih (j+1) (by omega)]
  exact hgen (t :: τ) i (Nat.le_refl _)
 | s' :: σ',s :: σ,τ,i,h,h2=>by
  simp only [List.length_cons] at h h2
  simp only [List.cons_append,backS]
  rw [Zpv n σ' σ τ (i+1) (by omega) (by omega),if_pos (by simp;omega)]
theorem VCall.tail {F:Frame→List Frame→Sem Next→World→Value→World→Prop} {f:AVal} {args:List AVal} {K:AVal→Store→Prop} (hf:f.low σ.length) (ha:lowL σ.length args) (hs:lowSo σ.length σ)
  (h:VCallG P F f args σ (fun r σ'=>σ'.length = σ.length∧K r (σ'++τ))):VCallG P F f args (σ++τ) K:=by
 refine VCall.frame (fun b=>decide (b < σ.length)) (K':=fun r σ2=>∃ σ',σ2 = σ'++List.replicate τ.length none∧σ'.length = σ.length∧K r (σ'++τ)) ?_ ?_
 ·rw [Zhi σ.length σ τ 0 (by omega)]
  refine VCall.grow _ hf ha hs (h.mono fun r σ' hk=>⟨hk.1,σ',rfl,hk.1,hk.2⟩)
 ·rintro r σ2 ⟨σ',rfl,h1,h2⟩
  refine ⟨fun b hb hv=>?_,by rw [Zpv σ.length σ' σ τ 0 (by omega) h1];exact h2⟩
  simp only [decide_eq_false_iff_not] at hv
  rw [List.length_append] at hb
  rw [List.getElem?_append_right (by omega),List.getElem?_replicate,if_pos (by omega)]
end
theorem Za9:∀ σ:Store,leSo σ σ
 | []=>trivial
 | _ :: r=>⟨.inl rfl,Za9 r⟩
end Go.Abs
