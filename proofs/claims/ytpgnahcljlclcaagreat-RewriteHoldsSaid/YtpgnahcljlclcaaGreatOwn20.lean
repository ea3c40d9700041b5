/- Part 20 of my own framework and of the walks of functions: AbsU. -/
import Derived.Test.YtpgnahcljlclcaaGreatOwn19
set_option linter.unusedVariables false
set_option linter.unusedSectionVars false
set_option linter.unusedSimpArgs false
namespace Go.Abs
open Go
def maskS (vis:Nat→Bool):Nat→Store→Store
 | _,[]=>[]
 | i,b :: r=>(if vis i=true then b else none) :: maskS vis (i+1) r
def backS (vis:Nat→Bool):Nat→Store→Store→Store
 | _,ns,[]=>ns
 | i,n :: ns,o :: os=>(if vis i=true then n else o) :: backS vis (i+1) ns os
 | _,[],_ :: _=>[]
theorem Zb4 (vis:Nat→Bool):∀ (σ:Store) (i:Nat),(maskS vis i σ).length = σ.length
 | [],_=>rfl
 | b :: r,i=>by simp [maskS,Zb4 vis r (i+1)]
theorem Zbo (vis:Nat→Bool):∀ (σ:Store) (i b:Nat),(maskS vis i σ)[b]? = (σ[b]?).map fun x=>if vis (i+b)=true then x else none
 | [],i,b=>by simp [maskS]
 | x :: r,i,0=>by simp [maskS]
 | x :: r,i,b+1=>by
  simp only [maskS,List.getElem?_cons_succ,Zbo vis r (i+1) b]
  rw [show i+1+b=i+(b+1) by omega]
theorem Zku (vis:Nat→Bool):∀ (ns os:Store) (i:Nat),os.length≤ns.length→(backS vis i ns os).length=ns.length
 | ns,[],_,_=>by cases ns<;>rfl
 | n :: ns,o :: os,i,h=>by simp [backS,Zku vis ns os (i+1) (by simpa using h)]
 | [],_ :: _,_,h=>by simp at h
theorem Zef (vis:Nat→Bool):∀ (ns os:Store) (i b:Nat),os.length≤ns.length→(backS vis i ns os)[b]? = if b<os.length∧vis (i+b)=false then os[b]? else ns[b]?
 | ns,[],i,b,_=>by cases ns<;>simp [backS]
 | n :: ns,o :: os,i,0,h=>by
  cases hv:vis i<;>simp [backS,hv]
 | n :: ns,o :: os,i,b+1,h=>by
  simp only [backS,List.getElem?_cons_succ,List.length_cons,Nat.add_lt_add_iff_right]
  rw [Zef vis ns os (i+1) b (by simpa using h),show i+1+b=i+(b+1) by omega]
 | [],_ :: _,_,_,h=>by simp at h
def hid (X:Nat→Nat→Prop) (vis:Nat→Bool) (σ:Store) (β:Env) (g o:Nat):Prop :=
 X g o∨∃ b blk L,σ[b]? = some (some blk)∧vis b=false∧β b=some L∧L.g=g∧(blk.mut L o∨(∃ ks vs f,blk = .map ks vs f)∧o=1)
section
variable {P:Program} {X:Nat→Nat→Prop} {base:Nat} {σ σ':Store} {β β':Env} {w w':World} {vis:Nat→Bool}
theorem Zed {b:Nat} {x:Blk}:(maskS vis 0 σ)[b]? = some (some x)↔vis b=true∧σ[b]? = some (some x):=by
 rw [Zbo,Nat.zero_add]
 cases σ[b]? with
 | none=>simp
 | some y=>cases vis b<;>simp
theorem Yih {b:Nat} {blk:Blk} {L:Loc} (h1 : σ[b]? = some (some blk)) (h2:vis b=false) (h3 : β b=some L):∃ o,hid X vis σ β L.g o:=by
 cases blk with
 | var cs=>exact ⟨0, .inr ⟨b,_,L,h1,h2,h3,rfl, .inl trivial⟩⟩
 | row es fz=>exact ⟨L.o+fz*L.sz, .inr ⟨b,_,L,h1,h2,h3,rfl, .inl (Nat.le_refl _)⟩⟩
 | map ks vs f=>exact ⟨1, .inr ⟨b,_,L,h1,h2,h3,rfl, .inr ⟨⟨_,_,_,rfl⟩,rfl⟩⟩⟩
 | iter s p=>exact ⟨0, .inr ⟨b,_,L,h1,h2,h3,rfl, .inl trivial⟩⟩
 | mit ks vs seen=>exact ⟨0, .inr ⟨b,_,L,h1,h2,h3,rfl, .inl trivial⟩⟩
 | loop r=>exact ⟨0, .inr ⟨b,_,L,h1,h2,h3,rfl, .inl trivial⟩⟩
theorem Znx {g o:Nat} (h:MT (hid X vis σ β) (maskS vis 0 σ) β g o):MT X σ β g o∨(∃ b ks vs f L,σ[b]? = some (some (.map ks vs f))∧vis b=false∧β b=some L∧L.g=g)∧o=1:=by
 rcases h with (h | ⟨b,blk,L,h1,h2,h3,h4,h5 | ⟨⟨ks,vs,f,rfl⟩,rfl⟩⟩) | ⟨b,blk,L,h1,h2,h3,h4⟩
 ·exact .inl (.inl h)
 ·exact .inl (.inr ⟨b,blk,L,h1,h3,h4,h5⟩)
 ·exact .inr ⟨⟨b,ks,vs,f,L,h1,h2,h3,h4⟩,rfl⟩
 ·exact .inl (.inr ⟨b,blk,L,(Zed.1 h1).2,h2,h3,h4⟩)
theorem Zwz {w:World} {g o:Nat} {es:Array MapEntry} {c:Nat} {v:Value} (h:w.heap[g]? = some (.map es c)):w.cell? ⟨g,o,none⟩≠some v:=by
 intro h2
 simp [World.cell?,h] at h2
theorem Zci (hr:RelS X base σ β w):Keeps w (MT X σ β) w (MT (hid X vis σ β) (maskS vis 0 σ) β):=by
 refine ⟨fun g o v hc hn=>⟨hc,fun hm=>?_⟩,fun g es c hg hn=>⟨hg,fun hm=>?_⟩⟩
 ·rcases Znx hm with h | ⟨⟨b,ks,vs,f,L,h1,h2,h3,rfl⟩,rfl⟩
  ·exact hn h
  ·obtain ⟨L',q1,q2,q3,es,clk,q4,_⟩:=hr.blk b _ h1
   obtain rfl:=Option.some.inj (q1.symm.trans h3)
   exact Zwz q4 hc
 ·rcases Znx hm with h | ⟨_,h⟩
  ·exact hn h
  ·cases h
theorem RelS.hide (hr:RelS X base σ β w):RelS (hid X vis σ β) base (maskS vis 0 σ) β w:=by
 refine ⟨fun b hb=>hr.dom b (by rw [Zb4] at hb;exact hb),fun b blk hb=>?_,fun b b' x y L L' h1 h2=>hr.inj b b' x y L L' (Zed.1 h1).2 (Zed.1 h2).2,hr.size,?_,hr.gl⟩
 ·obtain ⟨hv,hb⟩:=Zed.1 hb
  obtain ⟨L,q1,q2,q3,q4⟩:=hr.blk b blk hb
  refine ⟨L,q1,q2,fun o hh=>?_,q4.mono (Zci hr) (fun _ _ h=>h) rfl⟩
  rcases hh with hh | ⟨b',blk',L',h1,h2,h3,h4,_⟩
  ·exact q3 o hh
  ·obtain rfl:=hr.inj b' b _ _ _ _ h1 hb h3 q1 h4
   rw [hv] at h2;cases h2
 ·rintro g o (hx | ⟨b,blk,L,h1,h2,h3,rfl,_⟩)
  ·exact hr.xlt g o hx
  ·exact Zks hr h1 h3
theorem Zhq {b:Nat} {x:Blk} (hlen : σ.length≤σ'.length) (hn:∀ b,b < σ.length→vis b=false→σ'[b]? = some none) :
  (backS vis 0 σ' σ)[b]? = some (some x)↔σ'[b]? = some (some x)∨vis b=false∧σ[b]? = some (some x):=by
 rw [Zef vis σ' σ 0 b hlen,Nat.zero_add]
 split
 ·rename_i h
  rw [hn b h.1 h.2];simp [h.2]
 ·rename_i h
  constructor
  ·exact .inl
  ·rintro (h1 | ⟨h1,h2⟩)
   ·exact h1
   ·exact absurd ⟨(List.getElem?_eq_some_iff.1 h2).1,h1⟩ h
theorem RelS.unhide (hr:RelS X base σ β w) (h1:RelS (hid X vis σ β) base σ' β' w') (he:Ext 0 (maskS vis 0 σ) β w σ' β' w') (hβ:∀ b L,β b=some L→β' b=some L) (hlen : σ.length≤σ'.length)
  (hn:∀ b,b < σ.length→vis b=false→σ'[b]? = some none) :
  RelS X base (backS vis 0 σ' σ) β' w'∧Ext 0 σ β w (backS vis 0 σ' σ) β' w'∧Keeps w' (MT (hid X vis σ β) σ' β') w' (MT X (backS vis 0 σ' σ) β'):=by
 have hM:∀ g o,Mof (backS vis 0 σ' σ) β' g o→Mof σ' β' g o∨∃ b blk L,σ[b]? = some (some blk)∧vis b=false∧β b=some L∧L.g=g∧blk.mut L o:=by
  rintro g o ⟨b,blk,L,m1,m2,m3,m4⟩
  rcases (Zhq hlen hn).1 m1 with m1 | ⟨mv,m1⟩
  ·exact .inl ⟨b,blk,L,m1,m2,m3,m4⟩
  ·obtain ⟨L',q1,_⟩:=hr.blk b blk m1
   obtain rfl:=Option.some.inj ((hβ b L' q1).symm.trans m2)
   exact .inr ⟨b,blk,L',m1,mv,q1,m3,m4⟩
 have hK:Keeps w' (MT (hid X vis σ β) σ' β') w' (MT X (backS vis 0 σ' σ) β'):=Keeps.anti fun g o h=>by
  rcases h with h | h
  ·exact .inl (.inl h)
  ·rcases hM g o h with h | ⟨b,blk,L,m1,mv,q1,m3,m4⟩
   ·exact .inr h
   ·exact .inl (.inr ⟨b,blk,L,m1,mv,q1,m3, .inl m4⟩)
 have hMm:∀ g o,Mof (maskS vis 0 σ) β g o→Mof σ β g o:=fun g o ⟨b,blk,L,m1,m2,m3,m4⟩=>⟨b,blk,L,(Zed.1 m1).2,m2,m3,m4⟩
 have hE:Ext 0 σ β w (backS vis 0 σ' σ) β' w':=by
  refine ⟨he.os,he.tape,he.output,he.size,fun g o v hc hnm=>he.cell g o v hc fun hm=>hnm (hMm g o hm),fun g hg hnm=>he.block g hg fun o hm=>hnm o (hMm g o hm),fun g o hm=>?_,fun b hb=>by omega⟩
  rcases hM g o hm with h | ⟨b,blk,L,m1,mv,q1,m3,m4⟩
  ·exact (he.newM g o h).imp (hMm g o) id
  ·exact .inl ⟨b,blk,L,m1,q1,m3,m4⟩
 have hKK:Keeps w (MT X σ β) w' (MT X (backS vis 0 σ' σ) β'):=by
  refine ⟨fun g o v hc hnn=>?_,fun g es c hg hnn=>?_⟩
  ·obtain ⟨a1,a2⟩:=(Zci (vis:=vis) hr).cell g o v hc hnn
   obtain ⟨a3,a4⟩:=(he.keeps hr.hide).cell g o v a1 a2
   exact hK.cell g o v a3 a4
  ·obtain ⟨a1,a2⟩:=(Zci (vis:=vis) hr).map g es c hg hnn
   obtain ⟨a3,a4⟩:=(he.keeps hr.hide).map g es c a1 a2
   exact hK.map g es c a3 a4
 refine ⟨⟨fun b hb=>h1.dom b (by rw [Zku vis σ' σ 0 hlen] at hb;exact hb),fun b blk hb=>?_,fun b b' x y L L' e1 e2 e3 e4 e5=>?_,Nat.le_trans hr.size he.size,fun g o hx=>Nat.lt_of_lt_of_le (hr.xlt g o hx) he.size,h1.gl⟩,hE,hK⟩
 ·rcases (Zhq hlen hn).1 hb with hb | ⟨hv,hb⟩
  ·obtain ⟨L,q1,q2,q3,q4⟩:=h1.blk b blk hb
   exact ⟨L,q1,q2,fun o hx=>q3 o (.inl hx),q4.mono hK (fun _ _ h=>h) rfl⟩
  ·obtain ⟨L,q1,q2,q3,q4⟩:=hr.blk b blk hb
   refine ⟨L,hβ b L q1,q2,q3,q4.mono hKK hβ (he.block L.g q4.lt ?_)⟩
   rintro o ⟨b2,y2,L2,m1,m2,m3,m4⟩
   obtain ⟨mv,m1⟩:=Zed.1 m1
   obtain rfl:=hr.inj b2 b _ _ _ _ m1 hb m2 q1 m3
   rw [hv] at mv;cases mv
 ·rcases (Zhq hlen hn).1 e1 with e1 | ⟨v1,e1⟩<;>rcases (Zhq hlen hn).1 e2 with e2 | ⟨v2,e2⟩
  ·exact h1.inj b b' x y L L' e1 e2 e3 e4 e5
  ·obtain ⟨L2,q1,_,q3,_⟩:=h1.blk b x e1
   obtain rfl:=Option.some.inj (q1.symm.trans e3)
   obtain ⟨L3,p1,_⟩:=hr.blk b' y e2
   obtain rfl:=Option.some.inj ((hβ b' L3 p1).symm.trans e4)
   obtain ⟨o,ho⟩:=Yih (X:=X) e2 v2 p1
   rw [← e5] at ho
   exact absurd ho (q3 o)
  ·obtain ⟨L2,q1,_,q3,_⟩:=h1.blk b' y e2
   obtain rfl:=Option.some.inj (q1.symm.trans e4)
   obtain ⟨L3,p1,_⟩:=hr.blk b x e1
   obtain rfl:=Option.some.inj ((hβ b L3 p1).symm.trans e3)
   obtain ⟨o,ho⟩:=Yih (X:=X) e1 v1 p1
   rw [e5] at ho
   exact absurd ho (q3 o)
  ·obtain ⟨L2,q1,_⟩:=hr.blk b x e1
   obtain ⟨L3,p1,_⟩:=hr.blk b' y e2
   obtain rfl:=Option.some.inj ((hβ b L2 q1).symm.trans e3)
   obtain rfl:=Option.some.inj ((hβ b' L3 p1).symm.trans e4)
   exact hr.inj b b' x y _ _ e1 e2 q1 p1 e5
theorem VCall.frame {F:Frame→List Frame→Sem Next→World→Value→World→Prop} {f:AVal} {args:List AVal} {K K':AVal→Store→Prop} (vis:Nat→Bool) (h:VCallG P F f args (maskS vis 0 σ) K')
  (hk:∀ r σ',K' r σ'→(∀ b,b < σ.length→vis b=false→σ'[b]? = some none)∧K r (backS vis 0 σ' σ)):VCallG P F f args σ K:=by
 intro X base β w vf vs h1 h1' h2 h3 fr cs h4
 obtain ⟨r,σ',β',v,w',q,g1,g2,g3,g4,g5⟩:=h (hid X vis σ β) base β w vf vs h1.hide (h1'.mono (Zci h1) (fun _ _ h=>h)) h2 (fun k hk=>(h3 k hk).mono (Zci h1) (fun _ _ h=>h)) fr cs h4
 rw [Zb4] at g4
 have hβ:∀ b L,β b=some L→β' b=some L:=fun b L hb=>by
  rw [g3.env b ?_]
  ·exact hb
  ·rw [Zb4]
   refine Nat.lt_of_not_le fun hle=>?_
   rw [h1.dom b hle] at hb;cases hb
 obtain ⟨hn,hK⟩:=hk r σ' q
 obtain ⟨e1,e2,e3⟩:=h1.unhide g1 (g3.lower (Nat.zero_le _)) hβ g4 hn
 refine ⟨r,_,β',v,w',hK,e1,g2.mono e3 (fun _ _ h=>h),⟨e2.os,e2.tape,e2.output,e2.size,e2.cell,e2.block,e2.newM,fun b hb=>g3.env b (by rw [Zb4];exact hb)⟩,by rw [Zku _ _ _ _ g4];exact g4,g5⟩
end
end Go.Abs
