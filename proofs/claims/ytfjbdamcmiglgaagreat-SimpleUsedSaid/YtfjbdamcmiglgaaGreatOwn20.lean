/- Part 20 of my own framework and of the walks of functions: AbsU. -/
import Derived.Test.YtfjbdamcmiglgaaGreatOwn19
abbrev av:=@Nat.zero_le
set_option linter.unusedVariables false
set_option linter.unusedSectionVars false
set_option linter.unusedSimpArgs false
namespace Go.cV
open Go
def eF (vis:Nat→Bool):Nat→ai→ai
 | _,[]=>[]
 | i,b :: r=>(if vis i=true then b else none) :: eF vis (i+1) r
def gQ (vis:Nat→Bool):Nat→ai→ai→ai
 | _,ns,[]=>ns
 | i,n :: ns,o :: os=>(if vis i=true then n else o) :: gQ vis (i+1) ns os
 | _,[],_ :: _=>[]
theorem rM (vis:Nat→Bool):∀ (σ:ai) (i:Nat),(eF vis i σ).length = σ.length
 | [],_=>rfl
 | b :: r,i=>by simp [eF,rM vis r (i+1)]
theorem vV (vis:Nat→Bool):∀ (σ:ai) (i b:Nat),(eF vis i σ)[b]? = (σ[b]?).map fun x=>if vis (i+b)=true then x else none
 | [],i,b=>by simp [eF]
 | x :: r,i,0=>by simp [eF]
 | x :: r,i,b+1=>by
  simp only [eF,dn,vV vis r (i+1) b]
  rw [show i+1+b=i+(b+1) by omega]
theorem Kk (vis:Nat→Bool):∀ (ns os:ai) (i:Nat),os.length≤ns.length→(gQ vis i ns os).length=ns.length
 | ns,[],_,_=>by cases ns<;>rfl
 | n :: ns,o :: os,i,h=>by simp [gQ,Kk vis ns os (i+1) (by simpa using h)]
 | [],_ :: _,_,h=>by simp at h
theorem D0 (vis:Nat→Bool):∀ (ns os:ai) (i b:Nat),os.length≤ns.length→(gQ vis i ns os)[b]? = if b<os.length∧vis (i+b)=false then os[b]? else ns[b]?
 | ns,[],i,b,_=>by cases ns<;>simp [gQ]
 | n :: ns,o :: os,i,0,h=>by
  cases hv:vis i<;>simp [gQ,hv]
 | n :: ns,o :: os,i,b+1,h=>by
  simp only [gQ,dn,au,Nat.add_lt_add_iff_right]
  rw [D0 vis ns os (i+1) b (by simpa using h),show i+1+b=i+(b+1) by omega]
 | [],_ :: _,_,_,h=>by simp at h
def qO (X:Nat→Nat→Prop) (vis:Nat→Bool) (σ:ai) (β:Env) (g o:Nat):Prop :=
 X g o∨∃ b cf L,σ[b]? = some (some cf)∧vis b=false∧β b=some L∧L.g=g∧(cf.mut L o∨(∃ ks vs f,cf = .map ks vs f)∧o=1)
section
variable {P:Program} {X:Nat→Nat→Prop} {base:Nat} {σ σ':ai} {β β':Env} {w w':World} {vis:Nat→Bool}
theorem D6 {b:Nat} {x:bE}:(eF vis 0 σ)[b]? = some (some x)↔vis b=true∧σ[b]? = some (some x):=by
 rw [vV,bm]
 cases σ[b]? with
 | none=>simp
 | some y=>cases vis b<;>simp
theorem PR {b:Nat} {cf:bE} {L:Loc} (h1 : σ[b]? = some (some cf)) (h2:vis b=false) (h3 : β b=some L):∃ o,qO X vis σ β L.g o:=by
 cases cf with
 | var cs=>exact ⟨0, .inr ⟨b,_,L,h1,h2,h3,rfl, .inl trivial⟩⟩
 | row es fz=>exact ⟨L.o+fz*L.sz, .inr ⟨b,_,L,h1,h2,h3,rfl, .inl (ah _)⟩⟩
 | map ks vs f=>exact ⟨1, .inr ⟨b,_,L,h1,h2,h3,rfl, .inr ⟨⟨_,_,_,rfl⟩,rfl⟩⟩⟩
 | iter s p=>exact ⟨0, .inr ⟨b,_,L,h1,h2,h3,rfl, .inl trivial⟩⟩
 | kZ ks vs seen=>exact ⟨0, .inr ⟨b,_,L,h1,h2,h3,rfl, .inl trivial⟩⟩
 | loop r=>exact ⟨0, .inr ⟨b,_,L,h1,h2,h3,rfl, .inl trivial⟩⟩
theorem RN {g o:Nat} (h:MT (qO X vis σ β) (eF vis 0 σ) β g o):MT X σ β g o∨(∃ b ks vs f L,σ[b]? = some (some (.map ks vs f))∧vis b=false∧β b=some L∧L.g=g)∧o=1:=by
 rcases h with (h | ⟨b,cf,L,h1,h2,h3,h4,h5 | ⟨⟨ks,vs,f,rfl⟩,rfl⟩⟩) | ⟨b,cf,L,h1,h2,h3,h4⟩
 ·exact .inl (.inl h)
 ·exact .inl (.inr ⟨b,cf,L,h1,h3,h4,h5⟩)
 ·exact .inr ⟨⟨b,ks,vs,f,L,h1,h2,h3,h4⟩,rfl⟩
 ·exact .inl (.inr ⟨b,cf,L,(D6.1 h1).2,h2,h3,h4⟩)
theorem Wz {w:World} {g o:Nat} {es:Array MapEntry} {c:Nat} {v:Value} (h:w.heap[g]? = some (.map es c)):w.cell? ⟨g,o,none⟩≠some v:=by
 intro h2
 simp [World.cell?,h] at h2
theorem A7 (hr:cF X base σ β w):dg w (MT X σ β) w (MT (qO X vis σ β) (eF vis 0 σ) β):=by
 refine ⟨fun g o v hc hn=>⟨hc,fun hm=>?_⟩,fun g es c hg hn=>⟨hg,fun hm=>?_⟩⟩
 ·rcases RN hm with h | ⟨⟨b,ks,vs,f,L,h1,h2,h3,rfl⟩,rfl⟩
  ·exact hn h
  ·obtain ⟨L',q1,q2,q3,es,clk,q4,_⟩:=hr.cf b _ h1
   obtain rfl:=aM (q1.symm.trans h3)
   exact Wz q4 hc
 ·rcases RN hm with h | ⟨_,h⟩
  ·exact hn h
  ·cases h
theorem cF.yg (hr:cF X base σ β w):cF (qO X vis σ β) base (eF vis 0 σ) β w:=by
 refine ⟨fun b hb=>hr.nC b (by rw [rM] at hb;exact hb),fun b cf hb=>?_,fun b b' x y L L' h1 h2=>hr.inj b b' x y L L' (D6.1 h1).2 (D6.1 h2).2,hr.size,?_,hr.gl⟩
 ·obtain ⟨hv,hb⟩:=D6.1 hb
  obtain ⟨L,q1,q2,q3,q4⟩:=hr.cf b cf hb
  refine ⟨L,q1,q2,fun o hh=>?_,q4.mono (A7 hr) (fun _ _ h=>h) rfl⟩
  rcases hh with hh | ⟨b',kG,L',h1,h2,h3,h4,_⟩
  ·exact q3 o hh
  ·obtain rfl:=hr.inj b' b _ _ _ _ h1 hb h3 q1 h4
   rw [hv] at h2;cases h2
 ·rintro g o (hx | ⟨b,cf,L,h1,h2,h3,rfl,_⟩)
  ·exact hr.p6 g o hx
  ·exact Fu hr h1 h3
theorem HW {b:Nat} {x:bE} (hlen : σ.length≤σ'.length) (hn:∀ b,b < σ.length→vis b=false→σ'[b]? = some none) :
  (gQ vis 0 σ' σ)[b]? = some (some x)↔σ'[b]? = some (some x)∨vis b=false∧σ[b]? = some (some x):=by
 rw [D0 vis σ' σ 0 b hlen,bm]
 split
 ·rename_i h
  rw [hn b h.1 h.2];simp [h.2]
 ·rename_i h
  constructor
  ·exact .inl
  ·rintro (h1 | ⟨h1,h2⟩)
   ·exact h1
   ·exact absurd ⟨(aH.1 h2).1,h1⟩ h
theorem cF.vS (hr:cF X base σ β w) (h1:cF (qO X vis σ β) base σ' β' w') (he:Ext 0 (eF vis 0 σ) β w σ' β' w') (hβ:∀ b L,β b=some L→β' b=some L) (hlen : σ.length≤σ'.length)
  (hn:∀ b,b < σ.length→vis b=false→σ'[b]? = some none) :
  cF X base (gQ vis 0 σ' σ) β' w'∧Ext 0 σ β w (gQ vis 0 σ' σ) β' w'∧dg w' (MT (qO X vis σ β) σ' β') w' (MT X (gQ vis 0 σ' σ) β'):=by
 have hM:∀ g o,iQ (gQ vis 0 σ' σ) β' g o→iQ σ' β' g o∨∃ b cf L,σ[b]? = some (some cf)∧vis b=false∧β b=some L∧L.g=g∧cf.mut L o:=by
  rintro g o ⟨b,cf,L,m1,m2,m3,m4⟩
  rcases (HW hlen hn).1 m1 with m1 | ⟨mv,m1⟩
  ·exact .inl ⟨b,cf,L,m1,m2,m3,m4⟩
  ·obtain ⟨L',q1,_⟩:=hr.cf b cf m1
   obtain rfl:=aM ((hβ b L' q1).symm.trans m2)
   exact .inr ⟨b,cf,L',m1,mv,q1,m3,m4⟩
 have hK:dg w' (MT (qO X vis σ β) σ' β') w' (MT X (gQ vis 0 σ' σ) β'):=dg.lM fun g o h=>by
  rcases h with h | h
  ·exact .inl (.inl h)
  ·rcases hM g o h with h | ⟨b,cf,L,m1,mv,q1,m3,m4⟩
   ·exact .inr h
   ·exact .inl (.inr ⟨b,cf,L,m1,mv,q1,m3, .inl m4⟩)
 have Mk:∀ g o,iQ (eF vis 0 σ) β g o→iQ σ β g o:=fun g o ⟨b,cf,L,m1,m2,m3,m4⟩=>⟨b,cf,L,(D6.1 m1).2,m2,m3,m4⟩
 have hE:Ext 0 σ β w (gQ vis 0 σ' σ) β' w':=by
  refine ⟨he.os,he.tape,he.output,he.size,fun g o v hc sO=>he.cell g o v hc fun hm=>sO (Mk g o hm),fun g hg sO=>he.block g hg fun o hm=>sO o (Mk g o hm),fun g o hm=>?_,fun b hb=>by omega⟩
  rcases hM g o hm with h | ⟨b,cf,L,m1,mv,q1,m3,m4⟩
  ·exact (he.iC g o h).imp (Mk g o) id
  ·exact .inl ⟨b,cf,L,m1,q1,m3,m4⟩
 have Bt:dg w (MT X σ β) w' (MT X (gQ vis 0 σ' σ) β'):=by
  refine ⟨fun g o v hc zq=>?_,fun g es c hg zq=>?_⟩
  ·obtain ⟨a1,a2⟩:=(A7 (vis:=vis) hr).cell g o v hc zq
   obtain ⟨a3,a4⟩:=(he.keeps hr.yg).cell g o v a1 a2
   exact hK.cell g o v a3 a4
  ·obtain ⟨a1,a2⟩:=(A7 (vis:=vis) hr).map g es c hg zq
   obtain ⟨a3,a4⟩:=(he.keeps hr.yg).map g es c a1 a2
   exact hK.map g es c a3 a4
 refine ⟨⟨fun b hb=>h1.nC b (by rw [Kk vis σ' σ 0 hlen] at hb;exact hb),fun b cf hb=>?_,fun b b' x y L L' e1 e2 e3 e4 e5=>?_,cR hr.size he.size,fun g o hx=>cS (hr.p6 g o hx) he.size,h1.gl⟩,hE,hK⟩
 ·rcases (HW hlen hn).1 hb with hb | ⟨hv,hb⟩
  ·obtain ⟨L,q1,q2,q3,q4⟩:=h1.cf b cf hb
   exact ⟨L,q1,q2,fun o hx=>q3 o (.inl hx),q4.mono hK (fun _ _ h=>h) rfl⟩
  ·obtain ⟨L,q1,q2,q3,q4⟩:=hr.cf b cf hb
   refine ⟨L,hβ b L q1,q2,q3,q4.mono Bt hβ (he.block L.g q4.lt ?_)⟩
   rintro o ⟨b2,y2,L2,m1,m2,m3,m4⟩
   obtain ⟨mv,m1⟩:=D6.1 m1
   obtain rfl:=hr.inj b2 b _ _ _ _ m1 hb m2 q1 m3
   rw [hv] at mv;cases mv
 ·rcases (HW hlen hn).1 e1 with e1 | ⟨v1,e1⟩<;>rcases (HW hlen hn).1 e2 with e2 | ⟨v2,e2⟩
  ·exact h1.inj b b' x y L L' e1 e2 e3 e4 e5
  ·obtain ⟨L2,q1,_,q3,_⟩:=h1.cf b x e1
   obtain rfl:=aM (q1.symm.trans e3)
   obtain ⟨L3,p1,_⟩:=hr.cf b' y e2
   obtain rfl:=aM ((hβ b' L3 p1).symm.trans e4)
   obtain ⟨o,ho⟩:=PR (X:=X) e2 v2 p1
   rw [← e5] at ho
   exact absurd ho (q3 o)
  ·obtain ⟨L2,q1,_,q3,_⟩:=h1.cf b' y e2
   obtain rfl:=aM (q1.symm.trans e4)
   obtain ⟨L3,p1,_⟩:=hr.cf b x e1
   obtain rfl:=aM ((hβ b L3 p1).symm.trans e3)
   obtain ⟨o,ho⟩:=PR (X:=X) e1 v1 p1
   rw [e5] at ho
   exact absurd ho (q3 o)
  ·obtain ⟨L2,q1,_⟩:=hr.cf b x e1
   obtain ⟨L3,p1,_⟩:=hr.cf b' y e2
   obtain rfl:=aM ((hβ b L2 q1).symm.trans e3)
   obtain rfl:=aM ((hβ b' L3 p1).symm.trans e4)
   exact hr.inj b b' x y _ _ e1 e2 q1 p1 e5
theorem aq.frame {F:Frame→List Frame→Sem Next→World→Value→World→Prop} {f:ae} {args:List ae} {K K':ae→ai→Prop} (vis:Nat→Bool) (h:dt P F f args (eF vis 0 σ) K')
  (hk:∀ r σ',K' r σ'→(∀ b,b < σ.length→vis b=false→σ'[b]? = some none)∧K r (gQ vis 0 σ' σ)):dt P F f args σ K:=by
 intro X base β w vf vs h1 nD h2 h3 fr cs h4
 obtain ⟨r,σ',β',v,w',q,g1,g2,g3,g4,g5⟩:=h (qO X vis σ β) base β w vf vs h1.yg (nD.mono (A7 h1) (fun _ _ h=>h)) h2 (fun k hk=>(h3 k hk).mono (A7 h1) (fun _ _ h=>h)) fr cs h4
 rw [rM] at g4
 have hβ:∀ b L,β b=some L→β' b=some L:=fun b L hb=>by
  rw [g3.env b ?_]
  ·exact hb
  ·rw [rM]
   refine jv fun hle=>?_
   rw [h1.nC b hle] at hb;cases hb
 obtain ⟨hn,hK⟩:=hk r σ' q
 obtain ⟨e1,e2,e3⟩:=h1.vS g1 (g3.lower (av _)) hβ g4 hn
 refine ⟨r,_,β',v,w',hK,e1,g2.mono e3 (fun _ _ h=>h),⟨e2.os,e2.tape,e2.output,e2.size,e2.cell,e2.block,e2.iC,fun b hb=>g3.env b (by rw [rM];exact hb)⟩,by rw [Kk _ _ _ _ g4];exact g4,g5⟩
end
end Go.cV
