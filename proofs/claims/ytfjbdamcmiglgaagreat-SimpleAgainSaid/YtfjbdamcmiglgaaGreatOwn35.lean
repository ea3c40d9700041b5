/- Part 35 of my own framework and of the walks of functions: AcsJ. -/
import Derived.Test.YtfjbdamcmiglgaaGreatOwn34
set_option linter.unusedVariables false
set_option linter.unusedSectionVars false
set_option linter.unusedSimpArgs false
namespace Go.c8
open Go
mutual
theorem Lu (π ρ:Nat→Nat):∀ a:ae,dL π (dL ρ a)=dL (fun b=>π (ρ b)) a
 | .ptr b _=>rfl
 | .rp b _ _=>rfl
 | .os b _ _ _=>rfl
 | .oc b _ _ _ _=>rfl
 | .ig=>rfl
 | .lz b=>rfl
 | .map b=>rfl
 | .it b=>rfl
 | .pp cs=>by simp only [dL];rw [zl π ρ cs]
 | .ps _ es=>by simp only [dL];rw [zl π ρ es]
 | .fn _ a c=>by simp only [dL];rw [zl π ρ a,zl π ρ c]
 | .pm ks vs=>by simp only [dL];rw [zl π ρ ks,zl π ρ vs]
 | .agg cs=>by simp only [dL];rw [zl π ρ cs]
 | .dA cs=>by simp only [dL];rw [zl π ρ cs]
 | .iface _ v=>by simp only [dL];rw [Lu π ρ v]
 | .undef=>rfl
 | .bool _=>rfl
 | .int _ _=>rfl
 | .str _=>rfl
 | .bN=>rfl
 | .aU=>rfl
 | .az=>rfl
 | .cC=>rfl
 | .fR=>rfl
 | .nX _=>rfl
theorem zl (π ρ:Nat→Nat):∀ l:List ae,d_ π (d_ ρ l)=d_ (fun b=>π (ρ b)) l
 | []=>rfl
 | a :: cm=>by simp only [d_];rw [Lu π ρ a,zl π ρ cm]
end
mutual
theorem SF (π ρ:Nat→Nat) (n:Nat) (h:∀ b,b<n→π b = ρ b):∀ a:ae,a.low n→dL π a=dL ρ a
 | .ptr b _,k=>by simp only [dL];rw [h b k]
 | .rp b _ _,k=>by simp only [dL];rw [h b k]
 | .os b _ _ _,k=>by simp only [dL];rw [h b k]
 | .oc b _ _ _ _,k=>by simp only [dL];rw [h b k]
 | .ig,_=>rfl
 | .lz b,k=>by simp only [dL];rw [h b k]
 | .map b,k=>by simp only [dL];rw [h b k]
 | .it b,k=>by simp only [dL];rw [h b k]
 | .pp cs,k=>by simp only [dL];rw [uS π ρ n h cs k]
 | .ps _ es,k=>by simp only [dL];rw [uS π ρ n h es k]
 | .fn _ a c,k=>by simp only [dL];rw [uS π ρ n h a k.1,uS π ρ n h c k.2]
 | .pm ks vs,k=>by simp only [dL];rw [uS π ρ n h ks k.1,uS π ρ n h vs k.2]
 | .agg cs,k=>by simp only [dL];rw [uS π ρ n h cs k]
 | .dA cs,k=>by simp only [dL];rw [uS π ρ n h cs k]
 | .iface _ v,k=>by simp only [dL];rw [SF π ρ n h v k]
 | .undef,_=>rfl
 | .bool _,_=>rfl
 | .int _ _,_=>rfl
 | .str _,_=>rfl
 | .bN,_=>rfl
 | .aU,_=>rfl
 | .az,_=>rfl
 | .cC,_=>rfl
 | .fR,_=>rfl
 | .nX _,_=>rfl
theorem uS (π ρ:Nat→Nat) (n:Nat) (h:∀ b,b<n→π b = ρ b):∀ l:List ae,bz n l→d_ π l=d_ ρ l
 | [],_=>rfl
 | a :: cm,k=>by simp only [d_];rw [SF π ρ n h a k.1,uS π ρ n h cm k.2]
end
mutual
theorem LW (π:Nat→Nat) (n m:Nat) (h:∀ b,b<n→π b<m):∀ a:ae,a.low n→(dL π a).low m
 | .ptr b _,k=>h b k
 | .rp b _ _,k=>h b k
 | .os b _ _ _,k=>h b k
 | .oc b _ _ _ _,k=>h b k
 | .ig,_=>trivial
 | .lz b,k=>h b k
 | .map b,k=>h b k
 | .it b,k=>h b k
 | .pp cs,k=>uU π n m h cs k
 | .ps _ es,k=>uU π n m h es k
 | .fn _ a c,k=>⟨uU π n m h a k.1,uU π n m h c k.2⟩
 | .pm ks vs,k=>⟨uU π n m h ks k.1,uU π n m h vs k.2⟩
 | .agg cs,k=>uU π n m h cs k
 | .dA cs,k=>uU π n m h cs k
 | .iface _ v,k=>LW π n m h v k
 | .undef,_=>trivial
 | .bool _,_=>trivial
 | .int _ _,_=>trivial
 | .str _,_=>trivial
 | .bN,_=>trivial
 | .aU,_=>trivial
 | .az,_=>trivial
 | .cC,_=>trivial
 | .fR,_=>trivial
 | .nX _,_=>trivial
theorem uU (π:Nat→Nat) (n m:Nat) (h:∀ b,b<n→π b<m):∀ l:List ae,bz n l→bz m (d_ π l)
 | [],_=>trivial
 | a :: cm,k=>⟨LW π n m h a k.1,uU π n m h cm k.2⟩
end
theorem SV (π ρ:Nat→Nat) (x:bE):dI π (dI ρ x)=dI (fun b=>π (ρ b)) x:=by
 cases x<;>simp [dI,zl]
theorem YE (π ρ:Nat→Nat) (n:Nat) (h:∀ b,b<n→π b = ρ b) (x:bE) (hx:x.low n):dI π x=dI ρ x:=by
 cases x with
 | var cs=>simp only [dI];rw [uS π ρ n h cs hx]
 | row es f=>simp only [dI];rw [uS π ρ n h es hx]
 | map ks vs f=>simp only [dI];rw [uS π ρ n h ks hx.1,uS π ρ n h vs hx.2]
 | iter s p=>rfl
 | lu ks vs s=>simp only [dI];rw [uS π ρ n h ks hx.1,uS π ρ n h vs hx.2]
 | loop r=>simp only [dI];rw [uS π ρ n h r.tm hx]
theorem Yj6 (π:Nat→Nat) (n m:Nat) (h:∀ b,b<n→π b<m) (x:bE) (hx:x.low n):(dI π x).low m:=by
 cases x with
 | var cs=>exact uU π n m h cs hx
 | row es f=>exact uU π n m h es hx
 | map ks vs f=>exact ⟨uU π n m h ks hx.1,uU π n m h vs hx.2⟩
 | iter s p=>trivial
 | lu ks vs s=>exact ⟨uU π n m h ks hx.1,uU π n m h vs hx.2⟩
 | loop r=>exact uU π n m h r.tm hx
theorem Bv (π:Nat→Nat) (n:Nat) (h:∀ b,b<n→π b=b) (x:bE) (hx:x.low n):dI π x=x:=by
 cases x with
 | var cs=>simp only [dI];rw [qx π n h cs hx]
 | row es f=>simp only [dI];rw [qx π n h es hx]
 | map ks vs f=>simp only [dI];rw [qx π n h ks hx.1,qx π n h vs hx.2]
 | iter s p=>rfl
 | lu ks vs s=>simp only [dI];rw [qx π n h ks hx.1,qx π n h vs hx.2]
 | loop r=>simp only [dI];rw [qx π n h r.tm hx]
def om (n t b:Nat):Nat:=if b<n then b else b+t
def mc (n t:Nat) (τ dk:ai):ai:=(dk.take n).map (Option.map (dI (om n t)))++(τ++(dk.drop n).map (Option.map (dI (om n t))))
section
variable {P:Program} {X:Nat→Nat→Prop} {base:Nat} {σ dk τ:ai} {β β':Env} {w w':World} {n t:Nat}
theorem E_ {b:Nat} (h:b<n):om n t b=b:=if_pos h
theorem HD {b:Nat} (h:¬ b<n):om n t b=b+t:=if_neg h
theorem OT (h:n≤dk.length) (ht : τ.length=t):(mc n t τ dk).length = dk.length+t:=by
 simp only [mc,ay,ak,cY,cj];omega
theorem F2 (h:n≤dk.length) (ht : τ.length=t) (b:Nat):(mc n t τ dk)[om n t b]? = (dk[b]?).map (Option.map (dI (om n t))):=by
 have hl:((dk.take n).map (Option.map (dI (om n t)))).length=n:=by simp;omega
 by_cases hb:b<n
 ·rw [E_ hb,mc,cn (by omega),cf,fj,if_pos hb]
 ·rw [HD hb,mc,bK (by omega),hl,bK (by omega),cf,dM]
  congr 2;omega
theorem IZ (h:n≤dk.length) (ht : τ.length=t) {b:Nat} (h1:n≤b) (h2:b<n+t):(mc n t τ dk)[b]? = τ[b - n]?:=by
 have hl:((dk.take n).map (Option.map (dI (om n t)))).length=n:=by simp;omega
 rw [mc,bK (by omega),hl,cn (by omega)]
theorem TK (b:Nat):(n≤b∧b<n+t)∨∃ b',b=om n t b':=by
 by_cases h1:b<n
 ·exact .inr ⟨b,(E_ h1).symm⟩
 ·by_cases h2:b<n+t
  ·exact .inl ⟨by omega,h2⟩
  ·exact .inr ⟨b - t,by rw [HD (by omega)];omega⟩
theorem Yxq {b b':Nat} (h:om n t b=om n t b'):b=b':=by
 unfold om at h;split at h<;>split at h<;>omega
theorem QD (b:Nat):¬ (n≤om n t b∧om n t b<n+t):=by unfold om;split<;>omega
theorem Yy0 {b m:Nat} (hm:n≤m) (h:b<m):om n t b<m+t:=by unfold om;split<;>omega
def DT (n t m b:Nat):Nat:=if b<n then b else if b<n+t then m else b - t
theorem Yze {m b:Nat}:DT n t m (om n t b)=b:=by
 unfold DT om
 by_cases h:b<n
 ·simp [h]
 ·rw [if_neg h,if_neg (by omega),if_neg (by omega)];omega
theorem Ix {b:Nat} {x:bE} (h:n≤dk.length) (hx:(mc n t (List.replicate t none) dk)[b]? = some (some x)):∃ b' y,b=om n t b'∧dk[b']? = some (some y)∧x=dI (om n t) y:=by
 rcases TK (n:=n) (t:=t) b with ⟨h1,h2⟩ | ⟨b',rfl⟩
 ·rw [IZ h (by simp) h1 h2] at hx
  exact absurd hx Uo
 ·rw [F2 h (by simp)] at hx
  cases e : dk[b']? with
  | none=>rw [e] at hx;cases hx
  | some o =>
   rw [e] at hx
   cases o with
   | none=>cases hx
   | some y=>cases hx;exact ⟨b',y,rfl,e,rfl⟩
theorem aq.Gj {F:Frame→List Frame→Sem Next→World→Value→World→Prop} {f:ae} {args:List ae} {K:ae→ai→Prop} (t:Nat) (hf:f.low σ.length) (ha:bz σ.length args) (hs:bw σ.length σ)
  (h:dv P F f args σ (fun r σ'=>∃ dk,iy dk σ'∧σ.length≤dk.length∧bw dk.length dk∧r.low dk.length∧K (dL (om σ.length t) r) (mc σ.length t (List.replicate t none) dk))):dv P F f args (σ++List.replicate t none) K:=by
 intro X base β w vf vs h1 nP h2 h3 fr cs h4
 have hle:xI σ (σ++List.replicate t none):=fun b x hb=>wS.2 hb
 obtain ⟨r,iZ,mV,v,w2,⟨dk,d1,d2,d3,d4,d5⟩,g1,g2,g3,g4,g5⟩:=h X base (β.cut σ.length) w vf vs (h1.drop hle rfl (qL hs)) (nP.drop hle rfl hf) h2 (fun i hi=>(h3 i hi).drop hle rfl (ji ha i)) fr cs h4
 have k1:=g1.drop (vj d1) rfl (qL d3)
 have k2:=g2.drop (vj d1) rfl d4
 have k3:=g3.drop (vj d1) rfl d2
 generalize mV.cut dk.length = Cb at *
 generalize hn : σ.length=n at *
 let uP:Env:=fun b=>if b<n then Cb b else if b<n+t then β b else Cb (b - t)
 have hlen:(mc n t (List.replicate t none) dk).length = dk.length+t:=OT d2 (by simp)
 have e0:∀ b,uP (om n t b) = Cb b:=fun b=>by
  by_cases hb:b<n
  ·rw [E_ hb];exact if_pos hb
  ·rw [HD hb];simp only [uP];rw [if_neg (by omega),if_neg (by omega),Nat.add_sub_cancel]
 have fE:∀ b L,jY Cb (DT n t dk.length) (dk.length+t) b=some L→uP b=some L:=fun b L hb=>by
  simp only [jY] at hb
  split at hb
  ·simp only [DT] at hb
   simp only [uP]
   split at hb
   ·rename_i c;rw [if_pos c];exact hb
   ·rename_i c
    rw [if_neg c]
    split at hb
    ·rw [k1.nO _ (ah _)] at hb;cases hb
    ·rename_i c2;rw [if_neg c2];exact hb
  ·cases hb
 have hm:∀ g o,ja (mc n t (List.replicate t none) dk) uP g o↔ja dk Cb g o:=fun g o=>by
  constructor
  ·rintro ⟨b,cg,L,m1,m2,m3,m4⟩
   obtain ⟨b',y,rfl,q1,rfl⟩:=Ix d2 m1
   rw [e0] at m2
   rw [Cz] at m4
   exact ⟨b',y,L,q1,m2,m3,m4⟩
  ·rintro ⟨b,cg,L,m1,m2,m3,m4⟩
   exact ⟨om n t b,dI (om n t) cg,L,by rw [F2 d2 (by simp),m1];rfl,by rw [e0];exact m2,m3,by rw [Cz];exact m4⟩
 have sw:∀ g o,ja σ (β.cut n) g o↔ja (σ++List.replicate t none) β g o:=fun g o=>by
  rw [Bt]
  constructor
  ·rintro ⟨b,cg,L,m1,m2,m3⟩
   have hb:=(aI.1 m1).1
   exact ⟨b,cg,L,m1,by rw [Env.kY (by omega)] at m2;exact m2,m3⟩
  ·rintro ⟨b,cg,L,m1,m2,m3⟩
   have hb:=(aI.1 m1).1
   exact ⟨b,cg,L,m1,by rw [Env.kY (by omega)];exact m2,m3⟩
 have hk:di w2 (MT X dk Cb) w2 (MT X (mc n t (List.replicate t none) dk) uP):=di.l5 fun g o h=>h.imp id fun h=>(hm g o).1 h
 have qU:∀ b,DT n t dk.length (om n t b)=b:=fun b=>Yze
 have ke:∀ b,b < dk.length→om n t b < dk.length+t:=fun b hb=>Yy0 d2 hb
 refine ⟨_,_,uP,v,w2,d5,⟨fun b hb=>?_,fun b cg hb=>?_,fun b b' x y L L' m1 m2 m3 m4 hg=>?_,k1.size,k1.qd,k1.gl⟩,?_,⟨k3.os,k3.tape,k3.output,k3.size,fun g o v hc hn=>k3.cell g o v hc fun h=>hn ((sw g o).1 h),fun g hg hn=>k3.block g hg fun o h=>hn o ((sw g o).1 h),
  fun g o h=>(k3.iL g o ((hm g o).1 h)).imp (fun h=>(sw g o).1 h) id,fun b hb=>?_⟩,?_,g5⟩
 ·rw [hlen] at hb
  simp only [uP]
  rw [if_neg (by omega),if_neg (by omega)]
  exact k1.nO _ (by omega)
 ·obtain ⟨b',y,rfl,q1,rfl⟩:=Ix d2 hb
  obtain ⟨L,q2,q3,q4,q5⟩:=k1.cg b' y q1
  have hy:=qL d3 b' y q1
  refine ⟨L,by rw [e0];exact q2,q3,q4,?_⟩
  have q6:gp w2 (MT X dk Cb) Cb L (dI (DT n t dk.length) (dI (om n t) y)):=by
   rw [SV,Bv _ dk.length (fun b _=>qU b) y hy];exact q5
  exact (q6.dL (n:=dk.length+t) (Yj6 _ _ _ ke y hy)).mono hk fE rfl
 ·obtain ⟨c,x',rfl,q1,rfl⟩:=Ix d2 m1
  obtain ⟨c',y',rfl,q2,rfl⟩:=Ix d2 m2
  rw [e0] at m3 m4
  rw [k1.inj c c' x' y' L L' q1 q2 m3 m4 hg]
 ·have q6:=bS.dL (π:=DT n t dk.length) (n:=dk.length+t) k2 (dL (om n t) r) (by rw [Lu,F6 _ dk.length (fun b _=>qU b) r d4]) (LW _ _ _ ke r d4)
  exact q6.mono hk fE
 ·rw [ay,bA,hn] at hb
  simp only [uP]
  by_cases c:b<n
  ·rw [if_pos c,k3.env b c,Env.kY c]
  ·rw [if_neg c,if_pos hb]
 ·rw [hlen,ay,bA];omega
theorem Ynh (h:n≤dk.length) (hn : σ.length=n):hO (fun b=>decide (b<n)) 0 (mc n τ.length (List.replicate τ.length none) dk) (σ++τ)=mc n τ.length τ dk:=by
 apply bQ
 intro b
 have hl:(σ++τ).length≤(mc n τ.length (List.replicate τ.length none) dk).length:=by rw [OT h (by simp),ay];omega
 rw [Ei _ _ _ _ _ hl,bp]
 rcases TK (n:=n) (t:=τ.length) b with ⟨h1,h2⟩ | ⟨b',rfl⟩
 ·rw [if_pos ⟨by rw [ay];omega,by simp;omega⟩,IZ h rfl h1 h2,bK (by omega),hn]
 ·rw [F2 h rfl,F2 h (by simp)]
  by_cases c:b'<n
  ·rw [if_neg]
   rw [E_ c];simp [c]
  ·rw [if_neg]
   rw [HD c,ay]
   intro hh;omega
theorem aq.B7 {F:Frame→List Frame→Sem Next→World→Value→World→Prop} {f:ae} {args:List ae} {K:ae→ai→Prop} (hf:f.low σ.length) (ha:bz σ.length args) (hs:bw σ.length σ)
  (h:dv P F f args σ (fun r σ'=>∃ dk,iy dk σ'∧σ.length≤dk.length∧bw dk.length dk∧r.low dk.length∧K (dL (om σ.length τ.length) r) (mc σ.length τ.length τ dk))):dv P F f args (σ++τ) K:=by
 refine aq.frame (fun b=>decide (b < σ.length)) (K':=fun r iZ=>∃ dk,σ.length≤dk.length∧iZ=mc σ.length τ.length (List.replicate τ.length none) dk∧K r (mc σ.length τ.length τ dk)) ?_ ?_
 ·rw [Ia σ.length σ τ 0 (by omega)]
  refine aq.Gj _ hf ha hs (h.mono ?_)
  rintro r σ' ⟨dk,d1,d2,d3,d4,d5⟩
  exact ⟨dk,d1,d2,d3,d4,dk,d2,rfl,d5⟩
 ·rintro r iZ ⟨dk,h1,rfl,h3⟩
  refine ⟨fun b hb hv=>?_,by rw [Ynh h1 rfl];exact h3⟩
  simp only [decide_eq_false_iff_not] at hv
  rw [ay] at hb
  rw [IZ h1 (by simp) (by omega) (by omega),db,if_pos (by omega)]
end
section
variable {P:Program} {lo:Ctx} {st ef:St} {Q:cb→St→Prop} {π:Nat→Nat}
theorem mg.wr {Q:cb→St→Prop} {ops:Array Oper} {r l:List Nat} (h:Wr lo.n π ef st) (iU:lo.n≤ef.σ.length) (he:mg P lo ops r l ef Q):mg P lo ops r l st Q:=by
 intro X base mb D β a w b k cs h1 h2 h3
 obtain ⟨hw,hx⟩:=h.rel h3 iU
 obtain ⟨e1,kp,eX,a1,w1,q,g1,g2,g3,g4⟩:=he X base mb D _ a w b k cs iU h2 hw
 exact ⟨e1,kp,eX,a1,w1,q,g1,g2,hx.trans g3,g4⟩
theorem aK.wr {all:Array Oper} {l:List Oper} {k:List KI} (h:Wr lo.n π ef st) (iU:lo.n≤ef.σ.length) (he:aK P lo Q (.ops all l :: k) .normal ef):aK P lo Q (.ops all l :: k) .normal st:=by
 simp only [aK] at he ⊢
 exact fun hs=>mg.wr h iU (he hs)
theorem IJ {n:Nat}:∀ {l:List ae},bz n l→∀ (i:Nat) {a:ae},a.low n→bz n (l.set i a)
 | [],_,_,_,_=>trivial
 | _ :: _,h,0,_,ha=>⟨ha,h.2⟩
 | _ :: _,h,i+1,_,ha=>⟨h.1,IJ h.2 i ha⟩
theorem Kb {n m:Nat} (h:n≤m) {x:bE} (hx:x.low n):x.low m:=by
 cases x with
 | var cs=>exact iC h hx
 | row es f=>exact iC h hx
 | map ks vs f=>exact ⟨iC h hx.1,iC h hx.2⟩
 | iter s p=>trivial
 | lu ks vs s=>exact ⟨iC h hx.1,iC h hx.2⟩
 | loop r=>exact iC h hx
def oW (m n:Nat) (l:List ae):Prop:=∀ ρ:Nat→Nat,(∀ b,b<m∨n≤b→ρ b=b)→d_ ρ l=l
def ub (m n:Nat) (τ:ai):Prop:=∀ ρ:Nat→Nat,(∀ b,b<m∨n≤b→ρ b=b)→∀ x,some x ∈ τ→dI ρ x=x
theorem KL:∀ l:List ae,l9 l l
 | []=>trivial
 | _ :: r=>⟨.inl rfl,KL r⟩
theorem aK.qO {f:ae} {args:List ae} {σ τ:ai} {T:ae→List ae} {all:Array Oper} {l:List Oper} {k:List KI} (r0:ae) (h3:r0.low 0) (iU:lo.n≤σ.length) (hf:f.low σ.length) (ha:bz σ.length args) (hs:bw σ.length σ)
  (uv:oW lo.n σ.length (T r0)) (yO:ub lo.n σ.length τ) (bG:bz (σ.length + τ.length) (T r0)) (Nz:bw (σ.length + τ.length) τ)
  (h:aq P f args σ (fun r σ'=>r=r0∧σ.length≤σ'.length∧bw σ'.length σ'∧∃ π dk,dk.length = σ.length∧(∀ b,b<lo.n→π b=b)∧(∀ b b',b < σ.length→b' < σ.length→π b = π b'→b=b')∧gE π σ' 0 dk∧bw σ.length dk ∧
   aK P lo Q (.ops all l :: k) .normal ⟨T r0,dk++τ⟩)) :
  aq P f args (σ++τ) (fun r σ'=>aK P lo Q (.ops all l :: k) .normal ⟨T r,σ'⟩):=by
 refine aq.B7 hf ha hs (h.mono ?_)
 rintro r σ' ⟨rfl,h1,h2,π,dk,h4,h5,h6,h7,h8,h9⟩
 refine ⟨σ',fN σ',h1,h2,m_ (av _) h3,?_⟩
 rw [Ac h3]
 generalize hn : σ.length=n at *
 generalize ht : τ.length=t at *
 let ρ:Nat→Nat:=fun b=>if b<n then om n t (π b) else b
 have dO:∀ b,b<lo.n∨n≤b→ρ b=b:=fun b hb=>by
  simp only [ρ]
  split
  ·rename_i c
   rw [h5 b (by omega),E_ c]
  ·rfl
 refine aK.wr (π:=ρ) ⟨fun b hb=>dO b (.inl hb),fun b b' l1 l2 e=>?_,?_,fun b x hb=>?_,?_,fun b x hb=>?_⟩ (by simp only [ay];omega) h9
 ·simp only [ρ] at e
  split at e<;>split at e
  ·exact h6 b b' (by omega) (by omega) (Yxq e)
  ·rename_i c1 c2
   refine absurd ⟨?_,?_⟩ (QD (n:=n) (t:=t) (π b))
   ·rw [e];omega
   ·rw [e];simp only [ay] at l2;omega
  ·rename_i c1 c2
   refine absurd ⟨?_,?_⟩ (QD (n:=n) (t:=t) (π b'))
   ·rw [← e];omega
   ·rw [← e];simp only [ay] at l1;omega
  ·exact e
 ·simp only [uv ρ dO]
  exact KL _
 ·simp only [ρ]
  simp only at hb ⊢
  by_cases c:b<n
  ·rw [if_pos c,F2 h1 ht]
   rw [cn (by omega)] at hb
   have:=HZ dk 0 h7 b x hb
   rw [bp] at this
   rw [this]
   simp only [bu]
   rw [SV,YE (fun b=>om n t (π b)) ρ n (fun b hb=>by simp only [ρ,if_pos hb]) x (qL h8 b x hb)]
  ·rw [if_neg c]
   rw [bK (by omega),h4] at hb
   have pf:=(aI.1 hb).1
   rw [IZ h1 ht (by omega) (by omega),hb,yO ρ dO x (lY hb)]
 ·simp only [ay,h4,ht]
  exact bG
 ·simp only [ay,h4,ht]
  simp only at hb
  by_cases c:b<n
  ·rw [cn (by omega)] at hb
   exact Kb (by omega) (qL h8 b x hb)
  ·rw [bK (by omega)] at hb
   exact qL Nz _ x hb
theorem aK.xX {f:ae} {args:List ae} {σ:ai} {T:ae→List ae} {all:Array Oper} {l:List Oper} {k:List KI} (r0:ae) (h3:r0.low 0) (iU:lo.n≤σ.length) (hf:f.low σ.length) (ha:bz σ.length args) (hs:bw σ.length σ)
  (uv:oW lo.n σ.length (T r0)) (bG:bz σ.length (T r0))
  (h:aq P f args σ (fun r σ'=>r=r0∧σ.length≤σ'.length∧bw σ'.length σ'∧∃ π dk,dk.length = σ.length∧(∀ b,b<lo.n→π b=b)∧(∀ b b',b < σ.length→b' < σ.length→π b = π b'→b=b')∧gE π σ' 0 dk∧bw σ.length dk ∧
   aK P lo Q (.ops all l :: k) .normal ⟨T r0,dk⟩)) :
  aq P f args σ (fun r σ'=>aK P lo Q (.ops all l :: k) .normal ⟨T r,σ'⟩):=by
 have:=aK.qO (τ:=[]) (T:=T) r0 h3 iU hf ha hs uv (fun _ _ _ h=>by simp at h) bG trivial (h.mono fun r σ' hk=>by
  obtain ⟨k1,k2,k3,π,dk,k4,k5,k6,k7,k8,k9⟩:=hk
  exact ⟨k1,k2,k3,π,dk,k4,k5,k6,k7,k8,by rw [bq];exact k9⟩)
 rwa [bq] at this
end
end Go.c8
