/- Part 35 of my own framework and of the walks of functions: AcsJ. -/
import Derived.Test.YtfjbdamcmiglgaaGreatOwn34
set_option linter.unusedVariables false
set_option linter.unusedSectionVars false
set_option linter.unusedSimpArgs false
namespace Go.c8
open Go
mutual
theorem K0 (π ρ:Nat→Nat):∀ a:ae,dG π (dG ρ a)=dG (fun b=>π (ρ b)) a
 | .ptr b _=>rfl
 | .rp b _ _=>rfl
 | .os b _ _ _=>rfl
 | .oc b _ _ _ _=>rfl
 | .gZ=>rfl
 | .ld b=>rfl
 | .map b=>rfl
 | .it b=>rfl
 | .pp cs=>by simp only [dG];rw [yY π ρ cs]
 | .ps _ es=>by simp only [dG];rw [yY π ρ es]
 | .fn _ a c=>by simp only [dG];rw [yY π ρ a,yY π ρ c]
 | .pm ks vs=>by simp only [dG];rw [yY π ρ ks,yY π ρ vs]
 | .agg cs=>by simp only [dG];rw [yY π ρ cs]
 | .dz cs=>by simp only [dG];rw [yY π ρ cs]
 | .iface _ v=>by simp only [dG];rw [K0 π ρ v]
 | .undef=>rfl
 | .bool _=>rfl
 | .int _ _=>rfl
 | .str _=>rfl
 | .bM=>rfl
 | .aU=>rfl
 | .az=>rfl
 | .cw=>rfl
 | .fC=>rfl
 | .nL _=>rfl
theorem yY (π ρ:Nat→Nat):∀ l:List ae,dU π (dU ρ l)=dU (fun b=>π (ρ b)) l
 | []=>rfl
 | a :: cj=>by simp only [dU];rw [K0 π ρ a,yY π ρ cj]
end
mutual
theorem RK (π ρ:Nat→Nat) (n:Nat) (h:∀ b,b<n→π b = ρ b):∀ a:ae,a.low n→dG π a=dG ρ a
 | .ptr b _,k=>by simp only [dG];rw [h b k]
 | .rp b _ _,k=>by simp only [dG];rw [h b k]
 | .os b _ _ _,k=>by simp only [dG];rw [h b k]
 | .oc b _ _ _ _,k=>by simp only [dG];rw [h b k]
 | .gZ,_=>rfl
 | .ld b,k=>by simp only [dG];rw [h b k]
 | .map b,k=>by simp only [dG];rw [h b k]
 | .it b,k=>by simp only [dG];rw [h b k]
 | .pp cs,k=>by simp only [dG];rw [uA π ρ n h cs k]
 | .ps _ es,k=>by simp only [dG];rw [uA π ρ n h es k]
 | .fn _ a c,k=>by simp only [dG];rw [uA π ρ n h a k.1,uA π ρ n h c k.2]
 | .pm ks vs,k=>by simp only [dG];rw [uA π ρ n h ks k.1,uA π ρ n h vs k.2]
 | .agg cs,k=>by simp only [dG];rw [uA π ρ n h cs k]
 | .dz cs,k=>by simp only [dG];rw [uA π ρ n h cs k]
 | .iface _ v,k=>by simp only [dG];rw [RK π ρ n h v k]
 | .undef,_=>rfl
 | .bool _,_=>rfl
 | .int _ _,_=>rfl
 | .str _,_=>rfl
 | .bM,_=>rfl
 | .aU,_=>rfl
 | .az,_=>rfl
 | .cw,_=>rfl
 | .fC,_=>rfl
 | .nL _,_=>rfl
theorem uA (π ρ:Nat→Nat) (n:Nat) (h:∀ b,b<n→π b = ρ b):∀ l:List ae,bx n l→dU π l=dU ρ l
 | [],_=>rfl
 | a :: cj,k=>by simp only [dU];rw [RK π ρ n h a k.1,uA π ρ n h cj k.2]
end
mutual
theorem Lp (π:Nat→Nat) (n m:Nat) (h:∀ b,b<n→π b<m):∀ a:ae,a.low n→(dG π a).low m
 | .ptr b _,k=>h b k
 | .rp b _ _,k=>h b k
 | .os b _ _ _,k=>h b k
 | .oc b _ _ _ _,k=>h b k
 | .gZ,_=>trivial
 | .ld b,k=>h b k
 | .map b,k=>h b k
 | .it b,k=>h b k
 | .pp cs,k=>uC π n m h cs k
 | .ps _ es,k=>uC π n m h es k
 | .fn _ a c,k=>⟨uC π n m h a k.1,uC π n m h c k.2⟩
 | .pm ks vs,k=>⟨uC π n m h ks k.1,uC π n m h vs k.2⟩
 | .agg cs,k=>uC π n m h cs k
 | .dz cs,k=>uC π n m h cs k
 | .iface _ v,k=>Lp π n m h v k
 | .undef,_=>trivial
 | .bool _,_=>trivial
 | .int _ _,_=>trivial
 | .str _,_=>trivial
 | .bM,_=>trivial
 | .aU,_=>trivial
 | .az,_=>trivial
 | .cw,_=>trivial
 | .fC,_=>trivial
 | .nL _,_=>trivial
theorem uC (π:Nat→Nat) (n m:Nat) (h:∀ b,b<n→π b<m):∀ l:List ae,bx n l→bx m (dU π l)
 | [],_=>trivial
 | a :: cj,k=>⟨Lp π n m h a k.1,uC π n m h cj k.2⟩
end
theorem Rt (π ρ:Nat→Nat) (x:bE):dE π (dE ρ x)=dE (fun b=>π (ρ b)) x:=by
 cases x<;>simp [dE,yY]
theorem Zzt (π ρ:Nat→Nat) (n:Nat) (h:∀ b,b<n→π b = ρ b) (x:bE) (hx:x.low n):dE π x=dE ρ x:=by
 cases x with
 | var cs=>simp only [dE];rw [uA π ρ n h cs hx]
 | row es f=>simp only [dE];rw [uA π ρ n h es hx]
 | map ks vs f=>simp only [dE];rw [uA π ρ n h ks hx.1,uA π ρ n h vs hx.2]
 | iter s p=>rfl
 | kZ ks vs s=>simp only [dE];rw [uA π ρ n h ks hx.1,uA π ρ n h vs hx.2]
 | loop r=>simp only [dE];rw [uA π ρ n h r.tm hx]
theorem ZT (π:Nat→Nat) (n m:Nat) (h:∀ b,b<n→π b<m) (x:bE) (hx:x.low n):(dE π x).low m:=by
 cases x with
 | var cs=>exact uC π n m h cs hx
 | row es f=>exact uC π n m h es hx
 | map ks vs f=>exact ⟨uC π n m h ks hx.1,uC π n m h vs hx.2⟩
 | iter s p=>trivial
 | kZ ks vs s=>exact ⟨uC π n m h ks hx.1,uC π n m h vs hx.2⟩
 | loop r=>exact uC π n m h r.tm hx
theorem Bb (π:Nat→Nat) (n:Nat) (h:∀ b,b<n→π b=b) (x:bE) (hx:x.low n):dE π x=x:=by
 cases x with
 | var cs=>simp only [dE];rw [qg π n h cs hx]
 | row es f=>simp only [dE];rw [qg π n h es hx]
 | map ks vs f=>simp only [dE];rw [qg π n h ks hx.1,qg π n h vs hx.2]
 | iter s p=>rfl
 | kZ ks vs s=>simp only [dE];rw [qg π n h ks hx.1,qg π n h vs hx.2]
 | loop r=>simp only [dE];rw [qg π n h r.tm hx]
def om (n t b:Nat):Nat:=if b<n then b else b+t
def lW (n t:Nat) (τ dg:ai):ai:=(dg.take n).map (Option.map (dE (om n t)))++(τ++(dg.drop n).map (Option.map (dE (om n t))))
section
variable {P:Program} {X:Nat→Nat→Prop} {base:Nat} {σ dg τ:ai} {β β':Env} {w w':World} {n t:Nat}
theorem EL {b:Nat} (h:b<n):om n t b=b:=if_pos h
theorem G_ {b:Nat} (h:¬ b<n):om n t b=b+t:=if_neg h
theorem N8 (h:n≤dg.length) (ht : τ.length=t):(lW n t τ dg).length = dg.length+t:=by
 simp only [lW,ay,ak,cV,cf];omega
theorem FA (h:n≤dg.length) (ht : τ.length=t) (b:Nat):(lW n t τ dg)[om n t b]? = (dg[b]?).map (Option.map (dE (om n t))):=by
 have hl:((dg.take n).map (Option.map (dE (om n t)))).length=n:=by simp;omega
 by_cases hb:b<n
 ·rw [EL hb,lW,ck (by omega),cb,eZ,if_pos hb]
 ·rw [G_ hb,lW,bJ (by omega),hl,bJ (by omega),cb,dH]
  congr 2;omega
theorem Ii (h:n≤dg.length) (ht : τ.length=t) {b:Nat} (h1:n≤b) (h2:b<n+t):(lW n t τ dg)[b]? = τ[b - n]?:=by
 have hl:((dg.take n).map (Option.map (dE (om n t)))).length=n:=by simp;omega
 rw [lW,bJ (by omega),hl,ck (by omega)]
theorem RQ (b:Nat):(n≤b∧b<n+t)∨∃ b',b=om n t b':=by
 by_cases h1:b<n
 ·exact .inr ⟨b,(EL h1).symm⟩
 ·by_cases h2:b<n+t
  ·exact .inl ⟨by omega,h2⟩
  ·exact .inr ⟨b - t,by rw [G_ (by omega)];omega⟩
theorem Yxj {b b':Nat} (h:om n t b=om n t b'):b=b':=by
 unfold om at h;split at h<;>split at h<;>omega
theorem Pv (b:Nat):¬ (n≤om n t b∧om n t b<n+t):=by unfold om;split<;>omega
theorem Yxw {b m:Nat} (hm:n≤m) (h:b<m):om n t b<m+t:=by unfold om;split<;>omega
def Ds (n t m b:Nat):Nat:=if b<n then b else if b<n+t then m else b - t
theorem Yuu {m b:Nat}:Ds n t m (om n t b)=b:=by
 unfold Ds om
 by_cases h:b<n
 ·simp [h]
 ·rw [if_neg h,if_neg (by omega),if_neg (by omega)];omega
theorem HW {b:Nat} {x:bE} (h:n≤dg.length) (hx:(lW n t (List.replicate t none) dg)[b]? = some (some x)):∃ b' y,b=om n t b'∧dg[b']? = some (some y)∧x=dE (om n t) y:=by
 rcases RQ (n:=n) (t:=t) b with ⟨h1,h2⟩ | ⟨b',rfl⟩
 ·rw [Ii h (by simp) h1 h2] at hx
  exact absurd hx S3
 ·rw [FA h (by simp)] at hx
  cases e : dg[b']? with
  | none=>rw [e] at hx;cases hx
  | some o =>
   rw [e] at hx
   cases o with
   | none=>cases hx
   | some y=>cases hx;exact ⟨b',y,rfl,e,rfl⟩
theorem aq.FQ {F:Frame→List Frame→Sem Next→World→Value→World→Prop} {f:ae} {args:List ae} {K:ae→ai→Prop} (t:Nat) (hf:f.low σ.length) (ha:bx σ.length args) (hs:bt σ.length σ)
  (h:dp P F f args σ (fun r σ'=>∃ dg,ic dg σ'∧σ.length≤dg.length∧bt dg.length dg∧r.low dg.length∧K (dG (om σ.length t) r) (lW σ.length t (List.replicate t none) dg))):dp P F f args (σ++List.replicate t none) K:=by
 intro X base β w vf vs h1 nB h2 h3 fr cs h4
 have hle:xo σ (σ++List.replicate t none):=fun b x hb=>wB.2 hb
 obtain ⟨r,iM,mJ,v,w2,⟨dg,d1,d2,d3,d4,d5⟩,g1,g2,g3,g4,g5⟩:=h X base (β.cut σ.length) w vf vs (h1.drop hle rfl (qs hs)) (nB.drop hle rfl hf) h2 (fun i hi=>(h3 i hi).drop hle rfl (iW ha i)) fr cs h4
 have k1:=g1.drop (uN d1) rfl (qs d3)
 have k2:=g2.drop (uN d1) rfl d4
 have k3:=g3.drop (uN d1) rfl d2
 generalize mJ.cut dg.length = BV at *
 generalize hn : σ.length=n at *
 let ux:Env:=fun b=>if b<n then BV b else if b<n+t then β b else BV (b - t)
 have hlen:(lW n t (List.replicate t none) dg).length = dg.length+t:=N8 d2 (by simp)
 have e0:∀ b,ux (om n t b) = BV b:=fun b=>by
  by_cases hb:b<n
  ·rw [EL hb];exact if_pos hb
  ·rw [G_ hb];simp only [ux];rw [if_neg (by omega),if_neg (by omega),Nat.add_sub_cancel]
 have fp:∀ b L,jK BV (Ds n t dg.length) (dg.length+t) b=some L→ux b=some L:=fun b L hb=>by
  simp only [jK] at hb
  split at hb
  ·simp only [Ds] at hb
   simp only [ux]
   split at hb
   ·rename_i c;rw [if_pos c];exact hb
   ·rename_i c
    rw [if_neg c]
    split at hb
    ·rw [k1.nA _ (ah _)] at hb;cases hb
    ·rename_i c2;rw [if_neg c2];exact hb
  ·cases hb
 have hm:∀ g o,iO (lW n t (List.replicate t none) dg) ux g o↔iO dg BV g o:=fun g o=>by
  constructor
  ·rintro ⟨b,cd,L,m1,m2,m3,m4⟩
   obtain ⟨b',y,rfl,q1,rfl⟩:=HW d2 m1
   rw [e0] at m2
   rw [Ce] at m4
   exact ⟨b',y,L,q1,m2,m3,m4⟩
  ·rintro ⟨b,cd,L,m1,m2,m3,m4⟩
   exact ⟨om n t b,dE (om n t) cd,L,by rw [FA d2 (by simp),m1];rfl,by rw [e0];exact m2,m3,by rw [Ce];exact m4⟩
 have rV:∀ g o,iO σ (β.cut n) g o↔iO (σ++List.replicate t none) β g o:=fun g o=>by
  rw [A_]
  constructor
  ·rintro ⟨b,cd,L,m1,m2,m3⟩
   have hb:=(aI.1 m1).1
   exact ⟨b,cd,L,m1,by rw [Env.kJ (by omega)] at m2;exact m2,m3⟩
  ·rintro ⟨b,cd,L,m1,m2,m3⟩
   have hb:=(aI.1 m1).1
   exact ⟨b,cd,L,m1,by rw [Env.kJ (by omega)];exact m2,m3⟩
 have hk:df w2 (MT X dg BV) w2 (MT X (lW n t (List.replicate t none) dg) ux):=df.lP fun g o h=>h.imp id fun h=>(hm g o).1 h
 have qB:∀ b,Ds n t dg.length (om n t b)=b:=fun b=>Yuu
 have jY:∀ b,b < dg.length→om n t b < dg.length+t:=fun b hb=>Yxw d2 hb
 refine ⟨_,_,ux,v,w2,d5,⟨fun b hb=>?_,fun b cd hb=>?_,fun b b' x y L L' m1 m2 m3 m4 hg=>?_,k1.size,k1.pW,k1.gl⟩,?_,⟨k3.os,k3.tape,k3.output,k3.size,fun g o v hc hn=>k3.cell g o v hc fun h=>hn ((rV g o).1 h),fun g hg hn=>k3.block g hg fun o h=>hn o ((rV g o).1 h),
  fun g o h=>(k3.iB g o ((hm g o).1 h)).imp (fun h=>(rV g o).1 h) id,fun b hb=>?_⟩,?_,g5⟩
 ·rw [hlen] at hb
  simp only [ux]
  rw [if_neg (by omega),if_neg (by omega)]
  exact k1.nA _ (by omega)
 ·obtain ⟨b',y,rfl,q1,rfl⟩:=HW d2 hb
  obtain ⟨L,q2,q3,q4,q5⟩:=k1.cd b' y q1
  have hy:=qs d3 b' y q1
  refine ⟨L,by rw [e0];exact q2,q3,q4,?_⟩
  have q6:fR w2 (MT X dg BV) BV L (dE (Ds n t dg.length) (dE (om n t) y)):=by
   rw [Rt,Bb _ dg.length (fun b _=>qB b) y hy];exact q5
  exact (q6.dG (n:=dg.length+t) (ZT _ _ _ jY y hy)).mono hk fp rfl
 ·obtain ⟨c,x',rfl,q1,rfl⟩:=HW d2 m1
  obtain ⟨c',y',rfl,q2,rfl⟩:=HW d2 m2
  rw [e0] at m3 m4
  rw [k1.inj c c' x' y' L L' q1 q2 m3 m4 hg]
 ·have q6:=bR.dG (π:=Ds n t dg.length) (n:=dg.length+t) k2 (dG (om n t) r) (by rw [K0,FC _ dg.length (fun b _=>qB b) r d4]) (Lp _ _ _ jY r d4)
  exact q6.mono hk fp
 ·rw [ay,bz,hn] at hb
  simp only [ux]
  by_cases c:b<n
  ·rw [if_pos c,k3.env b c,Env.kJ c]
  ·rw [if_neg c,if_pos hb]
 ·rw [hlen,ay,bz];omega
theorem Ylc (h:n≤dg.length) (hn : σ.length=n):gR (fun b=>decide (b<n)) 0 (lW n τ.length (List.replicate τ.length none) dg) (σ++τ)=lW n τ.length τ dg:=by
 apply bP
 intro b
 have hl:(σ++τ).length≤(lW n τ.length (List.replicate τ.length none) dg).length:=by rw [N8 h (by simp),ay];omega
 rw [DS _ _ _ _ _ hl,bm]
 rcases RQ (n:=n) (t:=τ.length) b with ⟨h1,h2⟩ | ⟨b',rfl⟩
 ·rw [if_pos ⟨by rw [ay];omega,by simp;omega⟩,Ii h rfl h1 h2,bJ (by omega),hn]
 ·rw [FA h rfl,FA h (by simp)]
  by_cases c:b'<n
  ·rw [if_neg]
   rw [EL c];simp [c]
  ·rw [if_neg]
   rw [G_ c,ay]
   intro hh;omega
theorem aq.BQ {F:Frame→List Frame→Sem Next→World→Value→World→Prop} {f:ae} {args:List ae} {K:ae→ai→Prop} (hf:f.low σ.length) (ha:bx σ.length args) (hs:bt σ.length σ)
  (h:dp P F f args σ (fun r σ'=>∃ dg,ic dg σ'∧σ.length≤dg.length∧bt dg.length dg∧r.low dg.length∧K (dG (om σ.length τ.length) r) (lW σ.length τ.length τ dg))):dp P F f args (σ++τ) K:=by
 refine aq.frame (fun b=>decide (b < σ.length)) (K':=fun r iM=>∃ dg,σ.length≤dg.length∧iM=lW σ.length τ.length (List.replicate τ.length none) dg∧K r (lW σ.length τ.length τ dg)) ?_ ?_
 ·rw [HP σ.length σ τ 0 (by omega)]
  refine aq.FQ _ hf ha hs (h.mono ?_)
  rintro r σ' ⟨dg,d1,d2,d3,d4,d5⟩
  exact ⟨dg,d1,d2,d3,d4,dg,d2,rfl,d5⟩
 ·rintro r iM ⟨dg,h1,rfl,h3⟩
  refine ⟨fun b hb hv=>?_,by rw [Ylc h1 rfl];exact h3⟩
  simp only [decide_eq_false_iff_not] at hv
  rw [ay] at hb
  rw [Ii h1 (by simp) (by omega) (by omega),c9,if_pos (by omega)]
end
section
variable {P:Program} {lo:Ctx} {st dV:St} {Q:b9→St→Prop} {π:Nat→Nat}
theorem lY.wr {Q:b9→St→Prop} {ops:Array Oper} {r l:List Nat} (h:Wr lo.n π dV st) (iJ:lo.n≤dV.σ.length) (he:lY P lo ops r l dV Q):lY P lo ops r l st Q:=by
 intro X base mb D β a w b k cs h1 h2 h3
 obtain ⟨hw,hx⟩:=h.rel h3 iJ
 obtain ⟨e1,kb,eO,a1,w1,q,g1,g2,g3,g4⟩:=he X base mb D _ a w b k cs iJ h2 hw
 exact ⟨e1,kb,eO,a1,w1,q,g1,g2,hx.trans g3,g4⟩
theorem aK.wr {all:Array Oper} {l:List Oper} {k:List KI} (h:Wr lo.n π dV st) (iJ:lo.n≤dV.σ.length) (he:aK P lo Q (.ops all l :: k) .normal dV):aK P lo Q (.ops all l :: k) .normal st:=by
 simp only [aK] at he ⊢
 exact fun hs=>lY.wr h iJ (he hs)
theorem H_ {n:Nat}:∀ {l:List ae},bx n l→∀ (i:Nat) {a:ae},a.low n→bx n (l.set i a)
 | [],_,_,_,_=>trivial
 | _ :: _,h,0,_,ha=>⟨ha,h.2⟩
 | _ :: _,h,i+1,_,ha=>⟨h.1,H_ h.2 i ha⟩
theorem JB {n m:Nat} (h:n≤m) {x:bE} (hx:x.low n):x.low m:=by
 cases x with
 | var cs=>exact il h hx
 | row es f=>exact il h hx
 | map ks vs f=>exact ⟨il h hx.1,il h hx.2⟩
 | iter s p=>trivial
 | kZ ks vs s=>exact ⟨il h hx.1,il h hx.2⟩
 | loop r=>exact il h hx
def oI (m n:Nat) (l:List ae):Prop:=∀ ρ:Nat→Nat,(∀ b,b<m∨n≤b→ρ b=b)→dU ρ l=l
def tC (m n:Nat) (τ:ai):Prop:=∀ ρ:Nat→Nat,(∀ b,b<m∨n≤b→ρ b=b)→∀ x,some x ∈ τ→dE ρ x=x
theorem Kl:∀ l:List ae,lV l l
 | []=>trivial
 | _ :: r=>⟨.inl rfl,Kl r⟩
theorem aK.qw {f:ae} {args:List ae} {σ τ:ai} {T:ae→List ae} {all:Array Oper} {l:List Oper} {k:List KI} (r0:ae) (h3:r0.low 0) (iJ:lo.n≤σ.length) (hf:f.low σ.length) (ha:bx σ.length args) (hs:bt σ.length σ)
  (tQ:oI lo.n σ.length (T r0)) (yx:tC lo.n σ.length τ) (bD:bx (σ.length + τ.length) (T r0)) (MU:bt (σ.length + τ.length) τ)
  (h:aq P f args σ (fun r σ'=>r=r0∧σ.length≤σ'.length∧bt σ'.length σ'∧∃ π dg,dg.length = σ.length∧(∀ b,b<lo.n→π b=b)∧(∀ b b',b < σ.length→b' < σ.length→π b = π b'→b=b')∧gj π σ' 0 dg∧bt σ.length dg ∧
   aK P lo Q (.ops all l :: k) .normal ⟨T r0,dg++τ⟩)) :
  aq P f args (σ++τ) (fun r σ'=>aK P lo Q (.ops all l :: k) .normal ⟨T r,σ'⟩):=by
 refine aq.BQ hf ha hs (h.mono ?_)
 rintro r σ' ⟨rfl,h1,h2,π,dg,h4,h5,h6,h7,h8,h9⟩
 refine ⟨σ',fx σ',h1,h2,mQ (av _) h3,?_⟩
 rw [zK h3]
 generalize hn : σ.length=n at *
 generalize ht : τ.length=t at *
 let ρ:Nat→Nat:=fun b=>if b<n then om n t (π b) else b
 have dJ:∀ b,b<lo.n∨n≤b→ρ b=b:=fun b hb=>by
  simp only [ρ]
  split
  ·rename_i c
   rw [h5 b (by omega),EL c]
  ·rfl
 refine aK.wr (π:=ρ) ⟨fun b hb=>dJ b (.inl hb),fun b b' l1 l2 e=>?_,?_,fun b x hb=>?_,?_,fun b x hb=>?_⟩ (by simp only [ay];omega) h9
 ·simp only [ρ] at e
  split at e<;>split at e
  ·exact h6 b b' (by omega) (by omega) (Yxj e)
  ·rename_i c1 c2
   refine absurd ⟨?_,?_⟩ (Pv (n:=n) (t:=t) (π b))
   ·rw [e];omega
   ·rw [e];simp only [ay] at l2;omega
  ·rename_i c1 c2
   refine absurd ⟨?_,?_⟩ (Pv (n:=n) (t:=t) (π b'))
   ·rw [← e];omega
   ·rw [← e];simp only [ay] at l1;omega
  ·exact e
 ·simp only [tQ ρ dJ]
  exact Kl _
 ·simp only [ρ]
  simp only at hb ⊢
  by_cases c:b<n
  ·rw [if_pos c,FA h1 ht]
   rw [ck (by omega)] at hb
   have:=Hn dg 0 h7 b x hb
   rw [bm] at this
   rw [this]
   simp only [bu]
   rw [Rt,Zzt (fun b=>om n t (π b)) ρ n (fun b hb=>by simp only [ρ,if_pos hb]) x (qs h8 b x hb)]
  ·rw [if_neg c]
   rw [bJ (by omega),h4] at hb
   have oQ:=(aI.1 hb).1
   rw [Ii h1 ht (by omega) (by omega),hb,yx ρ dJ x (lN hb)]
 ·simp only [ay,h4,ht]
  exact bD
 ·simp only [ay,h4,ht]
  simp only at hb
  by_cases c:b<n
  ·rw [ck (by omega)] at hb
   exact JB (by omega) (qs h8 b x hb)
  ·rw [bJ (by omega)] at hb
   exact qs MU _ x hb
theorem aK.xG {f:ae} {args:List ae} {σ:ai} {T:ae→List ae} {all:Array Oper} {l:List Oper} {k:List KI} (r0:ae) (h3:r0.low 0) (iJ:lo.n≤σ.length) (hf:f.low σ.length) (ha:bx σ.length args) (hs:bt σ.length σ)
  (tQ:oI lo.n σ.length (T r0)) (bD:bx σ.length (T r0))
  (h:aq P f args σ (fun r σ'=>r=r0∧σ.length≤σ'.length∧bt σ'.length σ'∧∃ π dg,dg.length = σ.length∧(∀ b,b<lo.n→π b=b)∧(∀ b b',b < σ.length→b' < σ.length→π b = π b'→b=b')∧gj π σ' 0 dg∧bt σ.length dg ∧
   aK P lo Q (.ops all l :: k) .normal ⟨T r0,dg⟩)) :
  aq P f args σ (fun r σ'=>aK P lo Q (.ops all l :: k) .normal ⟨T r,σ'⟩):=by
 have:=aK.qw (τ:=[]) (T:=T) r0 h3 iJ hf ha hs tQ (fun _ _ _ h=>by simp at h) bD trivial (h.mono fun r σ' hk=>by
  obtain ⟨k1,k2,k3,π,dg,k4,k5,k6,k7,k8,k9⟩:=hk
  exact ⟨k1,k2,k3,π,dg,k4,k5,k6,k7,k8,by rw [bn];exact k9⟩)
 rwa [bn] at this
end
end Go.c8
