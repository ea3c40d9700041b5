/- Part 35 of my own framework and of the walks of functions: AcsJ. -/
import Derived.Test.YtfjbdamcmiglgaaGreatOwn34
set_option linter.unusedVariables false
set_option linter.unusedSectionVars false
set_option linter.unusedSimpArgs false
namespace Go.dm
open Go
mutual
theorem Ni (π ρ:Nat→Nat):∀ a:ah,ek π (ek ρ a)=ek (fun b=>π (ρ b)) a
 | .ptr b _=>rfl
 | .rp b _ _=>rfl
 | .os b _ _ _=>rfl
 | .oc b _ _ _ _=>rfl
 | .iH=>rfl
 | .lN b=>rfl
 | .map b=>rfl
 | .it b=>rfl
 | .pp cs=>by simp only [ek];rw [Aa π ρ cs]
 | .ps _ es=>by simp only [ek];rw [Aa π ρ es]
 | .fn _ a c=>by simp only [ek];rw [Aa π ρ a,Aa π ρ c]
 | .pm ks vs=>by simp only [ek];rw [Aa π ρ ks,Aa π ρ vs]
 | .agg cs=>by simp only [ek];rw [Aa π ρ cs]
 | .dT cs=>by simp only [ek];rw [Aa π ρ cs]
 | .iface _ v=>by simp only [ek];rw [Ni π ρ v]
 | .undef=>rfl
 | .bool _=>rfl
 | .int _ _=>rfl
 | .str _=>rfl
 | .bY=>rfl
 | .aW=>rfl
 | .aA=>rfl
 | .cM=>rfl
 | .gk=>rfl
 | .oD _=>rfl
theorem Aa (π ρ:Nat→Nat):∀ l:List ah,eK π (eK ρ l)=eK (fun b=>π (ρ b)) l
 | []=>rfl
 | a :: cD=>by simp only [eK];rw [Ni π ρ a,Aa π ρ cD]
end
mutual
theorem Ve (π ρ:Nat→Nat) (n:Nat) (h:∀ b,b<n→π b = ρ b):∀ a:ah,a.low n→ek π a=ek ρ a
 | .ptr b _,k=>by simp only [ek];rw [h b k]
 | .rp b _ _,k=>by simp only [ek];rw [h b k]
 | .os b _ _ _,k=>by simp only [ek];rw [h b k]
 | .oc b _ _ _ _,k=>by simp only [ek];rw [h b k]
 | .iH,_=>rfl
 | .lN b,k=>by simp only [ek];rw [h b k]
 | .map b,k=>by simp only [ek];rw [h b k]
 | .it b,k=>by simp only [ek];rw [h b k]
 | .pp cs,k=>by simp only [ek];rw [vT π ρ n h cs k]
 | .ps _ es,k=>by simp only [ek];rw [vT π ρ n h es k]
 | .fn _ a c,k=>by simp only [ek];rw [vT π ρ n h a k.1,vT π ρ n h c k.2]
 | .pm ks vs,k=>by simp only [ek];rw [vT π ρ n h ks k.1,vT π ρ n h vs k.2]
 | .agg cs,k=>by simp only [ek];rw [vT π ρ n h cs k]
 | .dT cs,k=>by simp only [ek];rw [vT π ρ n h cs k]
 | .iface _ v,k=>by simp only [ek];rw [Ve π ρ n h v k]
 | .undef,_=>rfl
 | .bool _,_=>rfl
 | .int _ _,_=>rfl
 | .str _,_=>rfl
 | .bY,_=>rfl
 | .aW,_=>rfl
 | .aA,_=>rfl
 | .cM,_=>rfl
 | .gk,_=>rfl
 | .oD _,_=>rfl
theorem vT (π ρ:Nat→Nat) (n:Nat) (h:∀ b,b<n→π b = ρ b):∀ l:List ah,bF n l→eK π l=eK ρ l
 | [],_=>rfl
 | a :: cD,k=>by simp only [eK];rw [Ve π ρ n h a k.1,vT π ρ n h cD k.2]
end
mutual
theorem Nu (π:Nat→Nat) (n m:Nat) (h:∀ b,b<n→π b<m):∀ a:ah,a.low n→(ek π a).low m
 | .ptr b _,k=>h b k
 | .rp b _ _,k=>h b k
 | .os b _ _ _,k=>h b k
 | .oc b _ _ _ _,k=>h b k
 | .iH,_=>trivial
 | .lN b,k=>h b k
 | .map b,k=>h b k
 | .it b,k=>h b k
 | .pp cs,k=>vW π n m h cs k
 | .ps _ es,k=>vW π n m h es k
 | .fn _ a c,k=>⟨vW π n m h a k.1,vW π n m h c k.2⟩
 | .pm ks vs,k=>⟨vW π n m h ks k.1,vW π n m h vs k.2⟩
 | .agg cs,k=>vW π n m h cs k
 | .dT cs,k=>vW π n m h cs k
 | .iface _ v,k=>Nu π n m h v k
 | .undef,_=>trivial
 | .bool _,_=>trivial
 | .int _ _,_=>trivial
 | .str _,_=>trivial
 | .bY,_=>trivial
 | .aW,_=>trivial
 | .aA,_=>trivial
 | .cM,_=>trivial
 | .gk,_=>trivial
 | .oD _,_=>trivial
theorem vW (π:Nat→Nat) (n m:Nat) (h:∀ b,b<n→π b<m):∀ l:List ah,bF n l→bF m (eK π l)
 | [],_=>trivial
 | a :: cD,k=>⟨Nu π n m h a k.1,vW π n m h cD k.2⟩
end
theorem VS (π ρ:Nat→Nat) (x:bO):ef π (ef ρ x)=ef (fun b=>π (ρ b)) x:=by
 cases x<;>simp [ef,Aa]
theorem Yc6 (π ρ:Nat→Nat) (n:Nat) (h:∀ b,b<n→π b = ρ b) (x:bO) (hx:x.low n):ef π x=ef ρ x:=by
 cases x with
 | var cs=>simp only [ef];rw [vT π ρ n h cs hx]
 | row es f=>simp only [ef];rw [vT π ρ n h es hx]
 | map ks vs f=>simp only [ef];rw [vT π ρ n h ks hx.1,vT π ρ n h vs hx.2]
 | iter s p=>rfl
 | lL ks vs s=>simp only [ef];rw [vT π ρ n h ks hx.1,vT π ρ n h vs hx.2]
 | loop r=>simp only [ef];rw [vT π ρ n h r.tm hx]
theorem Yp7 (π:Nat→Nat) (n m:Nat) (h:∀ b,b<n→π b<m) (x:bO) (hx:x.low n):(ef π x).low m:=by
 cases x with
 | var cs=>exact vW π n m h cs hx
 | row es f=>exact vW π n m h es hx
 | map ks vs f=>exact ⟨vW π n m h ks hx.1,vW π n m h vs hx.2⟩
 | iter s p=>trivial
 | lL ks vs s=>exact ⟨vW π n m h ks hx.1,vW π n m h vs hx.2⟩
 | loop r=>exact vW π n m h r.tm hx
theorem Bf (π:Nat→Nat) (n:Nat) (h:∀ b,b<n→π b=b) (x:bO) (hx:x.low n):ef π x=x:=by
 cases x with
 | var cs=>simp only [ef];rw [ry π n h cs hx]
 | row es f=>simp only [ef];rw [ry π n h es hx]
 | map ks vs f=>simp only [ef];rw [ry π n h ks hx.1,ry π n h vs hx.2]
 | iter s p=>rfl
 | lL ks vs s=>simp only [ef];rw [ry π n h ks hx.1,ry π n h vs hx.2]
 | loop r=>simp only [ef];rw [ry π n h r.tm hx]
def om (n t b:Nat):Nat:=if b<n then b else b+t
def mw (n t:Nat) (τ dA:ai):ai:=(dA.take n).map (Option.map (ef (om n t)))++(τ++(dA.drop n).map (Option.map (ef (om n t))))
section
variable {P:Program} {X:Nat→Nat→Prop} {base:Nat} {σ dA τ:ai} {β β':Env} {w w':World} {n t:Nat}
theorem Ga {b:Nat} (h:b<n):om n t b=b:=if_pos h
theorem IA {b:Nat} (h:¬ b<n):om n t b=b+t:=if_neg h
theorem Rj (h:n≤dA.length) (ht : τ.length=t):(mw n t τ dA).length = dA.length+t:=by
 simp only [mw,az,aj,cA,cz];omega
theorem G4 (h:n≤dA.length) (ht : τ.length=t) (b:Nat):(mw n t τ dA)[om n t b]? = (dA[b]?).map (Option.map (ef (om n t))):=by
 have hl:((dA.take n).map (Option.map (ef (om n t)))).length=n:=by simp;omega
 by_cases hb:b<n
 ·rw [Ga hb,mw,cF (by omega),cu,fI,if_pos hb]
 ·rw [IA hb,mw,bT (by omega),hl,bT (by omega),cu,eo];congr 2;omega
theorem J1 (h:n≤dA.length) (ht : τ.length=t) {b:Nat} (h1:n≤b) (h2:b<n+t):(mw n t τ dA)[b]? = τ[b - n]?:=by
 have hl:((dA.take n).map (Option.map (ef (om n t)))).length=n:=by simp;omega
 rw [mw,bT (by omega),hl,cF (by omega)]
theorem VU (b:Nat):(n≤b∧b<n+t)∨∃ b',b=om n t b':=by
 by_cases h1:b<n
 ·exact .inr ⟨b,(Ga h1).symm⟩
 ·by_cases h2:b<n+t
  ·exact .inl ⟨by omega,h2⟩
  ·exact .inr ⟨b - t,by rw [IA (by omega)];omega⟩
theorem YA {b b':Nat} (h:om n t b=om n t b'):b=b':=by
 unfold om at h;split at h<;>split at h<;>omega
theorem Sj (b:Nat):¬ (n≤om n t b∧om n t b<n+t):=by unfold om;split<;>omega
theorem YJ {b m:Nat} (hm:n≤m) (h:b<m):om n t b<m+t:=by unfold om;split<;>omega
def EJ (n t m b:Nat):Nat:=if b<n then b else if b<n+t then m else b - t
theorem Yzg {m b:Nat}:EJ n t m (om n t b)=b:=by
 unfold EJ om;by_cases h:b<n
 ·simp [h]
 ·rw [if_neg h,if_neg (by omega),if_neg (by omega)];omega
theorem JM {b:Nat} {x:bO} (h:n≤dA.length) (hx:(mw n t (List.replicate t none) dA)[b]? = some (some x)):∃ b' y,b=om n t b'∧dA[b']? = some (some y)∧x=ef (om n t) y:=by
 rcases VU (n:=n) (t:=t) b with ⟨h1,h2⟩ | ⟨b',rfl⟩
 ·rw [J1 h (by simp) h1 h2] at hx;exact absurd hx Xn
 ·rw [G4 h (by simp)] at hx;cases e : dA[b']? with
  | none=>rw [e] at hx;cases hx
  | some o =>
   rw [e] at hx;cases o with
   | none=>cases hx
   | some y=>cases hx;exact ⟨b',y,rfl,e,rfl⟩
theorem aq.Hg {F:Frame→List Frame→Sem Next→World→Value→World→Prop} {f:ah} {args:List ah} {K:ah→ai→Prop} (t:Nat) (hf:f.low σ.length) (ha:bF σ.length args) (hs:bD σ.length σ)
  (h:dJ P F f args σ (fun r σ'=>∃ dA,iP dA σ'∧σ.length≤dA.length∧bD dA.length dA∧r.low dA.length∧K (ek (om σ.length t) r) (mw σ.length t (List.replicate t none) dA))):dJ P F f args (σ++List.replicate t none) K:=by
 intro X base β w vf vs h1 oq h2 h3 fr cs h4;have hle:yB σ (σ++List.replicate t none):=fun b x hb=>xE.2 hb;obtain ⟨r,jq,nx,v,w2,⟨dA,d1,d2,d3,d4,d5⟩,g1,g2,g3,g4,g5⟩:=h X base (β.cut σ.length) w vf vs (h1.drop hle rfl (qR hs)) (oq.drop hle rfl hf) h2 (fun i hi=>(h3 i hi).drop hle rfl (jz ha i)) fr cs h4;have k1:=g1.drop (vV d1) rfl (qR d3);have k2:=g2.drop (vV d1) rfl d4;have k3:=g3.drop (vV d1) rfl d2;generalize nx.cut dA.length = C6 at *
 generalize hn : σ.length=n at *
 let vQ:Env:=fun b=>if b<n then C6 b else if b<n+t then β b else C6 (b - t)
 have hlen:(mw n t (List.replicate t none) dA).length = dA.length+t:=Rj d2 (by simp);have e0:∀ b,vQ (om n t b) = C6 b:=fun b=>by
  by_cases hb:b<n
  ·rw [Ga hb];exact if_pos hb
  ·rw [IA hb];simp only [vQ];rw [if_neg (by omega),if_neg (by omega),Nat.add_sub_cancel]
 have fD:∀ b L,kb C6 (EJ n t dA.length) (dA.length+t) b=some L→vQ b=some L:=fun b L hb=>by
  simp only [kb] at hb;split at hb
  ·simp only [EJ] at hb;simp only [vQ];split at hb
   ·rename_i c;rw [if_pos c];exact hb
   ·rename_i c;rw [if_neg c];split at hb
    ·rw [k1.oo _ (ae _)] at hb;cases hb
    ·rename_i c2;rw [if_neg c2];exact hb
  ·cases hb
 have hm:∀ g o,jr (mw n t (List.replicate t none) dA) vQ g o↔jr dA C6 g o:=fun g o=>by
  constructor
  ·rintro ⟨b,cw,L,m1,m2,m3,m4⟩;obtain ⟨b',y,rfl,q1,rfl⟩:=JM d2 m1;rw [e0] at m2;rw [Dn] at m4;exact ⟨b',y,L,q1,m2,m3,m4⟩
  ·rintro ⟨b,cw,L,m1,m2,m3,m4⟩;exact ⟨om n t b,ef (om n t) cw,L,by rw [G4 d2 (by simp),m1];rfl,by rw [e0];exact m2,m3,by rw [Dn];exact m4⟩
 have tH:∀ g o,jr σ (β.cut n) g o↔jr (σ++List.replicate t none) β g o:=fun g o=>by
  rw [Co];constructor
  ·rintro ⟨b,cw,L,m1,m2,m3⟩;have hb:=(aJ.1 m1).1;exact ⟨b,cw,L,m1,by rw [Env.lx (by omega)] at m2;exact m2,m3⟩
  ·rintro ⟨b,cw,L,m1,m2,m3⟩;have hb:=(aJ.1 m1).1;exact ⟨b,cw,L,m1,by rw [Env.lx (by omega)];exact m2,m3⟩
 have hk:dD w2 (MT X dA C6) w2 (MT X (mw n t (List.replicate t none) dA) vQ):=dD.mh fun g o h=>h.imp id fun h=>(hm g o).1 h;have rY:∀ b,EJ n t dA.length (om n t b)=b:=fun b=>Yzg;have ky:∀ b,b < dA.length→om n t b < dA.length+t:=fun b hb=>YJ d2 hb;refine ⟨_,_,vQ,v,w2,d5,⟨fun b hb=>?_,fun b cw hb=>?_,fun b b' x y L L' m1 m2 m3 m4 hg=>?_,k1.size,k1.qL,k1.gl⟩,?_,⟨k3.os,k3.tape,k3.output,k3.size,fun g o v hc hn=>k3.cell g o v hc fun h=>hn ((tH g o).1 h),fun g hg hn=>k3.block g hg fun o h=>hn o ((tH g o).1 h),
  fun g o h=>(k3.jb g o ((hm g o).1 h)).imp (fun h=>(tH g o).1 h) id,fun b hb=>?_⟩,?_,g5⟩
 ·rw [hlen] at hb;simp only [vQ];rw [if_neg (by omega),if_neg (by omega)];exact k1.oo _ (by omega)
 ·obtain ⟨b',y,rfl,q1,rfl⟩:=JM d2 hb;obtain ⟨L,q2,q3,q4,q5⟩:=k1.cw b' y q1;have hy:=qR d3 b' y q1;refine ⟨L,by rw [e0];exact q2,q3,q4,?_⟩;have q6:gI w2 (MT X dA C6) C6 L (ef (EJ n t dA.length) (ef (om n t) y)):=by
   rw [VS,Bf _ dA.length (fun b _=>rY b) y hy];exact q5
  exact (q6.ek (n:=dA.length+t) (Yp7 _ _ _ ky y hy)).mono hk fD rfl
 ·obtain ⟨c,x',rfl,q1,rfl⟩:=JM d2 m1;obtain ⟨c',y',rfl,q2,rfl⟩:=JM d2 m2;rw [e0] at m3 m4;rw [k1.inj c c' x' y' L L' q1 q2 m3 m4 hg]
 ·have q6:=cf.ek (π:=EJ n t dA.length) (n:=dA.length+t) k2 (ek (om n t) r) (by rw [Ni,G2 _ dA.length (fun b _=>rY b) r d4]) (Nu _ _ _ ky r d4);exact q6.mono hk fD
 ·rw [az,bB,hn] at hb;simp only [vQ];by_cases c:b<n
  ·rw [if_pos c,k3.env b c,Env.lx c]
  ·rw [if_neg c,if_pos hb]
 ·rw [hlen,az,bB];omega
theorem Yo6 (h:n≤dA.length) (hn : σ.length=n):iA (fun b=>decide (b<n)) 0 (mw n τ.length (List.replicate τ.length none) dA) (σ++τ)=mw n τ.length τ dA:=by
 apply b_;intro b;have hl:(σ++τ).length≤(mw n τ.length (List.replicate τ.length none) dA).length:=by rw [Rj h (by simp),az];omega
 rw [E6 _ _ _ _ _ hl,bq];rcases VU (n:=n) (t:=τ.length) b with ⟨h1,h2⟩ | ⟨b',rfl⟩
 ·rw [if_pos ⟨by rw [az];omega,by simp;omega⟩,J1 h rfl h1 h2,bT (by omega),hn]
 ·rw [G4 h rfl,G4 h (by simp)];by_cases c:b'<n
  ·rw [if_neg];rw [Ga c];simp [c]
  ·rw [if_neg];rw [IA c,az];intro hh;omega
theorem aq.C0 {F:Frame→List Frame→Sem Next→World→Value→World→Prop} {f:ah} {args:List ah} {K:ah→ai→Prop} (hf:f.low σ.length) (ha:bF σ.length args) (hs:bD σ.length σ)
  (h:dJ P F f args σ (fun r σ'=>∃ dA,iP dA σ'∧σ.length≤dA.length∧bD dA.length dA∧r.low dA.length∧K (ek (om σ.length τ.length) r) (mw σ.length τ.length τ dA))):dJ P F f args (σ++τ) K:=by
 refine aq.frame (fun b=>decide (b < σ.length)) (K':=fun r jq=>∃ dA,σ.length≤dA.length∧jq=mw σ.length τ.length (List.replicate τ.length none) dA∧K r (mw σ.length τ.length τ dA)) ?_ ?_
 ·rw [Ja σ.length σ τ 0 (by omega)];refine aq.Hg _ hf ha hs (h.mono ?_);rintro r σ' ⟨dA,d1,d2,d3,d4,d5⟩;exact ⟨dA,d1,d2,d3,d4,dA,d2,rfl,d5⟩
 ·rintro r jq ⟨dA,h1,rfl,h3⟩;refine ⟨fun b hb hv=>?_,by rw [Yo6 h1 rfl];exact h3⟩;simp only [decide_eq_false_iff_not] at hv;rw [az] at hb;rw [J1 h1 (by simp) (by omega) (by omega),dv,if_pos (by omega)]
end
section
variable {P:Program} {lo:Ctx} {st eL:St} {Q:ct→St→Prop} {π:Nat→Nat}
theorem mB.wr {Q:ct→St→Prop} {ops:Array Oper} {r l:List Nat} (h:Wr lo.n π eL st) (jg:lo.n≤eL.σ.length) (he:mB P lo ops r l eL Q):mB P lo ops r l st Q:=by
 intro X base mb D β a w b k cs h1 h2 h3;obtain ⟨hw,hx⟩:=h.rel h3 jg;obtain ⟨e1,kK,fy,a1,w1,q,g1,g2,g3,g4⟩:=he X base mb D _ a w b k cs jg h2 hw;exact ⟨e1,kK,fy,a1,w1,q,g1,g2,hx.trans g3,g4⟩
theorem aG.wr {all:Array Oper} {l:List Oper} {k:List KI} (h:Wr lo.n π eL st) (jg:lo.n≤eL.σ.length) (he:aG P lo Q (.ops all l :: k) .normal eL):aG P lo Q (.ops all l :: k) .normal st:=by
 simp only [aG] at he ⊢;exact fun hs=>mB.wr h jg (he hs)
theorem JO {n:Nat}:∀ {l:List ah},bF n l→∀ (i:Nat) {a:ah},a.low n→bF n (l.set i a)
 | [],_,_,_,_=>trivial
 | _ :: _,h,0,_,ha=>⟨ha,h.2⟩
 | _ :: _,h,i+1,_,ha=>⟨h.1,JO h.2 i ha⟩
theorem Ll {n m:Nat} (h:n≤m) {x:bO} (hx:x.low n):x.low m:=by
 cases x with
 | var cs=>exact iO h hx
 | row es f=>exact iO h hx
 | map ks vs f=>exact ⟨iO h hx.1,iO h hx.2⟩
 | iter s p=>trivial
 | lL ks vs s=>exact ⟨iO h hx.1,iO h hx.2⟩
 | loop r=>exact iO h hx
def pA (m n:Nat) (l:List ah):Prop:=∀ ρ:Nat→Nat,(∀ b,b<m∨n≤b→ρ b=b)→eK ρ l=l
def uX (m n:Nat) (τ:ai):Prop:=∀ ρ:Nat→Nat,(∀ b,b<m∨n≤b→ρ b=b)→∀ x,some x ∈ τ→ef ρ x=x
theorem Mm:∀ l:List ah,mr l l
 | []=>trivial
 | _ :: r=>⟨.inl rfl,Mm r⟩
theorem aG.rS {f:ah} {args:List ah} {σ τ:ai} {T:ah→List ah} {all:Array Oper} {l:List Oper} {k:List KI} (r0:ah) (h3:r0.low 0) (jg:lo.n≤σ.length) (hf:f.low σ.length) (ha:bF σ.length args) (hs:bD σ.length σ)
  (vl:pA lo.n σ.length (T r0)) (zE:uX lo.n σ.length τ) (bA:bF (σ.length + τ.length) (T r0)) (Pd:bD (σ.length + τ.length) τ)
  (h:aq P f args σ (fun r σ'=>r=r0∧σ.length≤σ'.length∧bD σ'.length σ'∧∃ π dA,dA.length = σ.length∧(∀ b,b<lo.n→π b=b)∧(∀ b b',b < σ.length→b' < σ.length→π b = π b'→b=b')∧gW π σ' 0 dA∧bD σ.length dA ∧
   aG P lo Q (.ops all l :: k) .normal ⟨T r0,dA++τ⟩)) :
  aq P f args (σ++τ) (fun r σ'=>aG P lo Q (.ops all l :: k) .normal ⟨T r,σ'⟩):=by
 refine aq.C0 hf ha hs (h.mono ?_);rintro r σ' ⟨rfl,h1,h2,π,dA,h4,h5,h6,h7,h8,h9⟩;refine ⟨σ',f_ σ',h1,h2,nG (au _) h3,?_⟩;rw [Ba h3];generalize hn : σ.length=n at *
 generalize ht : τ.length=t at *
 let ρ:Nat→Nat:=fun b=>if b<n then om n t (π b) else b
 have er:∀ b,b<lo.n∨n≤b→ρ b=b:=fun b hb=>by
  simp only [ρ];split
  ·rename_i c;rw [h5 b (by omega),Ga c]
  ·rfl
 refine aG.wr (π:=ρ) ⟨fun b hb=>er b (.inl hb),fun b b' l1 l2 e=>?_,?_,fun b x hb=>?_,?_,fun b x hb=>?_⟩ (by simp only [az];omega) h9
 ·simp only [ρ] at e;split at e<;>split at e
  ·exact h6 b b' (by omega) (by omega) (YA e)
  ·rename_i c1 c2;refine absurd ⟨?_,?_⟩ (Sj (n:=n) (t:=t) (π b))
   ·rw [e];omega
   ·rw [e];simp only [az] at l2;omega
  ·rename_i c1 c2;refine absurd ⟨?_,?_⟩ (Sj (n:=n) (t:=t) (π b'))
   ·rw [← e];omega
   ·rw [← e];simp only [az] at l1;omega
  ·exact e
 ·simp only [vl ρ er];exact Mm _
 ·simp only [ρ];simp only at hb ⊢;by_cases c:b<n
  ·rw [if_pos c,G4 h1 ht];rw [cF (by omega)] at hb;have:=I5 dA 0 h7 b x hb;rw [bq] at this;rw [this];simp only [bM];rw [VS,Yc6 (fun b=>om n t (π b)) ρ n (fun b hb=>by simp only [ρ,if_pos hb]) x (qR h8 b x hb)]
  ·rw [if_neg c];rw [bT (by omega),h4] at hb;have pg:=(aJ.1 hb).1;rw [J1 h1 ht (by omega) (by omega),hb,zE ρ er x (mf hb)]
 ·simp only [az,h4,ht];exact bA
 ·simp only [az,h4,ht];simp only at hb;by_cases c:b<n
  ·rw [cF (by omega)] at hb;exact Ll (by omega) (qR h8 b x hb)
  ·rw [bT (by omega)] at hb;exact qR Pd _ x hb
theorem aG.yU {f:ah} {args:List ah} {σ:ai} {T:ah→List ah} {all:Array Oper} {l:List Oper} {k:List KI} (r0:ah) (h3:r0.low 0) (jg:lo.n≤σ.length) (hf:f.low σ.length) (ha:bF σ.length args) (hs:bD σ.length σ)
  (vl:pA lo.n σ.length (T r0)) (bA:bF σ.length (T r0))
  (h:aq P f args σ (fun r σ'=>r=r0∧σ.length≤σ'.length∧bD σ'.length σ'∧∃ π dA,dA.length = σ.length∧(∀ b,b<lo.n→π b=b)∧(∀ b b',b < σ.length→b' < σ.length→π b = π b'→b=b')∧gW π σ' 0 dA∧bD σ.length dA ∧
   aG P lo Q (.ops all l :: k) .normal ⟨T r0,dA⟩)) :
  aq P f args σ (fun r σ'=>aG P lo Q (.ops all l :: k) .normal ⟨T r,σ'⟩):=by
 have:=aG.rS (τ:=[]) (T:=T) r0 h3 jg hf ha hs vl (fun _ _ _ h=>by simp at h) bA trivial (h.mono fun r σ' hk=>by
  obtain ⟨k1,k2,k3,π,dA,k4,k5,k6,k7,k8,k9⟩:=hk;exact ⟨k1,k2,k3,π,dA,k4,k5,k6,k7,k8,by rw [bu];exact k9⟩)
 rwa [bu] at this
end
end Go.dm
