/- Part 35 of my own framework and of the walks of functions: AcsJ. -/
import Derived.Test.YtfjbdamcmiglgaaGreatOwn34
set_option linter.unusedVariables false
set_option linter.unusedSectionVars false
set_option linter.unusedSimpArgs false
namespace Go.cV
open Go
mutual
theorem Lj (π ρ:Nat→Nat):∀ a:ae,dI π (dI ρ a)=dI (fun b=>π (ρ b)) a
 | .ptr b _=>rfl
 | .rp b _ _=>rfl
 | .os b _ _ _=>rfl
 | .oc b _ _ _ _=>rfl
 | .gZ=>rfl
 | .ld b=>rfl
 | .map b=>rfl
 | .it b=>rfl
 | .pp cs=>by simp only [dI];rw [y9 π ρ cs]
 | .ps _ es=>by simp only [dI];rw [y9 π ρ es]
 | .fn _ a c=>by simp only [dI];rw [y9 π ρ a,y9 π ρ c]
 | .pm ks vs=>by simp only [dI];rw [y9 π ρ ks,y9 π ρ vs]
 | .agg cs=>by simp only [dI];rw [y9 π ρ cs]
 | .dy cs=>by simp only [dI];rw [y9 π ρ cs]
 | .iface _ v=>by simp only [dI];rw [Lj π ρ v]
 | .undef=>rfl
 | .bool _=>rfl
 | .int _ _=>rfl
 | .str _=>rfl
 | .bM=>rfl
 | .aU=>rfl
 | .az=>rfl
 | .cy=>rfl
 | .fE=>rfl
 | .nM _=>rfl
theorem y9 (π ρ:Nat→Nat):∀ l:List ae,dY π (dY ρ l)=dY (fun b=>π (ρ b)) l
 | []=>rfl
 | a :: ck=>by simp only [dY];rw [Lj π ρ a,y9 π ρ ck]
end
mutual
theorem R5 (π ρ:Nat→Nat) (n:Nat) (h:∀ b,b<n→π b = ρ b):∀ a:ae,a.low n→dI π a=dI ρ a
 | .ptr b _,k=>by simp only [dI];rw [h b k]
 | .rp b _ _,k=>by simp only [dI];rw [h b k]
 | .os b _ _ _,k=>by simp only [dI];rw [h b k]
 | .oc b _ _ _ _,k=>by simp only [dI];rw [h b k]
 | .gZ,_=>rfl
 | .ld b,k=>by simp only [dI];rw [h b k]
 | .map b,k=>by simp only [dI];rw [h b k]
 | .it b,k=>by simp only [dI];rw [h b k]
 | .pp cs,k=>by simp only [dI];rw [uM π ρ n h cs k]
 | .ps _ es,k=>by simp only [dI];rw [uM π ρ n h es k]
 | .fn _ a c,k=>by simp only [dI];rw [uM π ρ n h a k.1,uM π ρ n h c k.2]
 | .pm ks vs,k=>by simp only [dI];rw [uM π ρ n h ks k.1,uM π ρ n h vs k.2]
 | .agg cs,k=>by simp only [dI];rw [uM π ρ n h cs k]
 | .dy cs,k=>by simp only [dI];rw [uM π ρ n h cs k]
 | .iface _ v,k=>by simp only [dI];rw [R5 π ρ n h v k]
 | .undef,_=>rfl
 | .bool _,_=>rfl
 | .int _ _,_=>rfl
 | .str _,_=>rfl
 | .bM,_=>rfl
 | .aU,_=>rfl
 | .az,_=>rfl
 | .cy,_=>rfl
 | .fE,_=>rfl
 | .nM _,_=>rfl
theorem uM (π ρ:Nat→Nat) (n:Nat) (h:∀ b,b<n→π b = ρ b):∀ l:List ae,bx n l→dY π l=dY ρ l
 | [],_=>rfl
 | a :: ck,k=>by simp only [dY];rw [R5 π ρ n h a k.1,uM π ρ n h ck k.2]
end
mutual
theorem LC (π:Nat→Nat) (n m:Nat) (h:∀ b,b<n→π b<m):∀ a:ae,a.low n→(dI π a).low m
 | .ptr b _,k=>h b k
 | .rp b _ _,k=>h b k
 | .os b _ _ _,k=>h b k
 | .oc b _ _ _ _,k=>h b k
 | .gZ,_=>trivial
 | .ld b,k=>h b k
 | .map b,k=>h b k
 | .it b,k=>h b k
 | .pp cs,k=>uO π n m h cs k
 | .ps _ es,k=>uO π n m h es k
 | .fn _ a c,k=>⟨uO π n m h a k.1,uO π n m h c k.2⟩
 | .pm ks vs,k=>⟨uO π n m h ks k.1,uO π n m h vs k.2⟩
 | .agg cs,k=>uO π n m h cs k
 | .dy cs,k=>uO π n m h cs k
 | .iface _ v,k=>LC π n m h v k
 | .undef,_=>trivial
 | .bool _,_=>trivial
 | .int _ _,_=>trivial
 | .str _,_=>trivial
 | .bM,_=>trivial
 | .aU,_=>trivial
 | .az,_=>trivial
 | .cy,_=>trivial
 | .fE,_=>trivial
 | .nM _,_=>trivial
theorem uO (π:Nat→Nat) (n m:Nat) (h:∀ b,b<n→π b<m):∀ l:List ae,bx n l→bx m (dY π l)
 | [],_=>trivial
 | a :: ck,k=>⟨LC π n m h a k.1,uO π n m h ck k.2⟩
end
theorem RX (π ρ:Nat→Nat) (x:bE):dG π (dG ρ x)=dG (fun b=>π (ρ b)) x:=by
 cases x<;>simp [dG,y9]
theorem Zyw (π ρ:Nat→Nat) (n:Nat) (h:∀ b,b<n→π b = ρ b) (x:bE) (hx:x.low n):dG π x=dG ρ x:=by
 cases x with
 | var cs=>simp only [dG];rw [uM π ρ n h cs hx]
 | row es f=>simp only [dG];rw [uM π ρ n h es hx]
 | map ks vs f=>simp only [dG];rw [uM π ρ n h ks hx.1,uM π ρ n h vs hx.2]
 | iter s p=>rfl
 | kZ ks vs s=>simp only [dG];rw [uM π ρ n h ks hx.1,uM π ρ n h vs hx.2]
 | loop r=>simp only [dG];rw [uM π ρ n h r.tm hx]
theorem Yjd (π:Nat→Nat) (n m:Nat) (h:∀ b,b<n→π b<m) (x:bE) (hx:x.low n):(dG π x).low m:=by
 cases x with
 | var cs=>exact uO π n m h cs hx
 | row es f=>exact uO π n m h es hx
 | map ks vs f=>exact ⟨uO π n m h ks hx.1,uO π n m h vs hx.2⟩
 | iter s p=>trivial
 | kZ ks vs s=>exact ⟨uO π n m h ks hx.1,uO π n m h vs hx.2⟩
 | loop r=>exact uO π n m h r.tm hx
theorem Bk (π:Nat→Nat) (n:Nat) (h:∀ b,b<n→π b=b) (x:bE) (hx:x.low n):dG π x=x:=by
 cases x with
 | var cs=>simp only [dG];rw [qn π n h cs hx]
 | row es f=>simp only [dG];rw [qn π n h es hx]
 | map ks vs f=>simp only [dG];rw [qn π n h ks hx.1,qn π n h vs hx.2]
 | iter s p=>rfl
 | kZ ks vs s=>simp only [dG];rw [qn π n h ks hx.1,qn π n h vs hx.2]
 | loop r=>simp only [dG];rw [qn π n h r.tm hx]
def om (n t b:Nat):Nat:=if b<n then b else b+t
def lU (n t:Nat) (τ dh:ai):ai:=(dh.take n).map (Option.map (dG (om n t)))++(τ++(dh.drop n).map (Option.map (dG (om n t))))
section
variable {P:Program} {X:Nat→Nat→Prop} {base:Nat} {σ dh τ:ai} {β β':Env} {w w':World} {n t:Nat}
theorem ET {b:Nat} (h:b<n):om n t b=b:=if_pos h
theorem Hf {b:Nat} (h:¬ b<n):om n t b=b+t:=if_neg h
theorem Oo (h:n≤dh.length) (ht : τ.length=t):(lU n t τ dh).length = dh.length+t:=by
 simp only [lU,ay,ao,cW,cg];omega
theorem FH (h:n≤dh.length) (ht : τ.length=t) (b:Nat):(lU n t τ dh)[om n t b]? = (dh[b]?).map (Option.map (dG (om n t))):=by
 have hl:((dh.take n).map (Option.map (dG (om n t)))).length=n:=by simp;omega
 by_cases hb:b<n
 ·rw [ET hb,lU,cm (by omega),cd,e9,if_pos hb]
 ·rw [Hf hb,lU,bI (by omega),hl,bI (by omega),cd,dJ]
  congr 2;omega
theorem Iw (h:n≤dh.length) (ht : τ.length=t) {b:Nat} (h1:n≤b) (h2:b<n+t):(lU n t τ dh)[b]? = τ[b - n]?:=by
 have hl:((dh.take n).map (Option.map (dG (om n t)))).length=n:=by simp;omega
 rw [lU,bI (by omega),hl,cm (by omega)]
theorem R2 (b:Nat):(n≤b∧b<n+t)∨∃ b',b=om n t b':=by
 by_cases h1:b<n
 ·exact .inr ⟨b,(ET h1).symm⟩
 ·by_cases h2:b<n+t
  ·exact .inl ⟨by omega,h2⟩
  ·exact .inr ⟨b - t,by rw [Hf (by omega)];omega⟩
theorem Yuq {b b':Nat} (h:om n t b=om n t b'):b=b':=by
 unfold om at h;split at h<;>split at h<;>omega
theorem PF (b:Nat):¬ (n≤om n t b∧om n t b<n+t):=by unfold om;split<;>omega
theorem Ywc {b m:Nat} (hm:n≤m) (h:b<m):om n t b<m+t:=by unfold om;split<;>omega
def DG (n t m b:Nat):Nat:=if b<n then b else if b<n+t then m else b - t
theorem Yuw {m b:Nat}:DG n t m (om n t b)=b:=by
 unfold DG om
 by_cases h:b<n
 ·simp [h]
 ·rw [if_neg h,if_neg (by omega),if_neg (by omega)];omega
theorem Io {b:Nat} {x:bE} (h:n≤dh.length) (hx:(lU n t (List.replicate t none) dh)[b]? = some (some x)):∃ b' y,b=om n t b'∧dh[b']? = some (some y)∧x=dG (om n t) y:=by
 rcases R2 (n:=n) (t:=t) b with ⟨h1,h2⟩ | ⟨b',rfl⟩
 ·rw [Iw h (by simp) h1 h2] at hx
  exact absurd hx TV
 ·rw [FH h (by simp)] at hx
  cases e : dh[b']? with
  | none=>rw [e] at hx;cases hx
  | some o =>
   rw [e] at hx
   cases o with
   | none=>cases hx
   | some y=>cases hx;exact ⟨b',y,rfl,e,rfl⟩
theorem aq.FY {F:Frame→List Frame→Sem Next→World→Value→World→Prop} {f:ae} {args:List ae} {K:ae→ai→Prop} (t:Nat) (hf:f.low σ.length) (ha:bx σ.length args) (hs:bt σ.length σ)
  (h:dt P F f args σ (fun r σ'=>∃ dh,ig dh σ'∧σ.length≤dh.length∧bt dh.length dh∧r.low dh.length∧K (dI (om σ.length t) r) (lU σ.length t (List.replicate t none) dh))):dt P F f args (σ++List.replicate t none) K:=by
 intro X base β w vf vs h1 nD h2 h3 fr cs h4
 have hle:xx σ (σ++List.replicate t none):=fun b x hb=>wI.2 hb
 obtain ⟨r,iO,mI,v,w2,⟨dh,d1,d2,d3,d4,d5⟩,g1,g2,g3,g4,g5⟩:=h X base (β.cut σ.length) w vf vs (h1.drop hle rfl (qA hs)) (nD.drop hle rfl hf) h2 (fun i hi=>(h3 i hi).drop hle rfl (iX ha i)) fr cs h4
 have k1:=g1.drop (u0 d1) rfl (qA d3)
 have k2:=g2.drop (u0 d1) rfl d4
 have k3:=g3.drop (u0 d1) rfl d2
 generalize mI.cut dh.length = B4 at *
 generalize hn : σ.length=n at *
 let uJ:Env:=fun b=>if b<n then B4 b else if b<n+t then β b else B4 (b - t)
 have hlen:(lU n t (List.replicate t none) dh).length = dh.length+t:=Oo d2 (by simp)
 have e0:∀ b,uJ (om n t b) = B4 b:=fun b=>by
  by_cases hb:b<n
  ·rw [ET hb];exact if_pos hb
  ·rw [Hf hb];simp only [uJ];rw [if_neg (by omega),if_neg (by omega),Nat.add_sub_cancel]
 have fh:∀ b L,jK B4 (DG n t dh.length) (dh.length+t) b=some L→uJ b=some L:=fun b L hb=>by
  simp only [jK] at hb
  split at hb
  ·simp only [DG] at hb
   simp only [uJ]
   split at hb
   ·rename_i c;rw [if_pos c];exact hb
   ·rename_i c
    rw [if_neg c]
    split at hb
    ·rw [k1.nC _ (ah _)] at hb;cases hb
    ·rename_i c2;rw [if_neg c2];exact hb
  ·cases hb
 have hm:∀ g o,iQ (lU n t (List.replicate t none) dh) uJ g o↔iQ dh B4 g o:=fun g o=>by
  constructor
  ·rintro ⟨b,cf,L,m1,m2,m3,m4⟩
   obtain ⟨b',y,rfl,q1,rfl⟩:=Io d2 m1
   rw [e0] at m2
   rw [Cn] at m4
   exact ⟨b',y,L,q1,m2,m3,m4⟩
  ·rintro ⟨b,cf,L,m1,m2,m3,m4⟩
   exact ⟨om n t b,dG (om n t) cf,L,by rw [FH d2 (by simp),m1];rfl,by rw [e0];exact m2,m3,by rw [Cn];exact m4⟩
 have sc:∀ g o,iQ σ (β.cut n) g o↔iQ (σ++List.replicate t none) β g o:=fun g o=>by
  rw [Bh]
  constructor
  ·rintro ⟨b,cf,L,m1,m2,m3⟩
   have hb:=(aH.1 m1).1
   exact ⟨b,cf,L,m1,by rw [Env.kH (by omega)] at m2;exact m2,m3⟩
  ·rintro ⟨b,cf,L,m1,m2,m3⟩
   have hb:=(aH.1 m1).1
   exact ⟨b,cf,L,m1,by rw [Env.kH (by omega)];exact m2,m3⟩
 have hk:dg w2 (MT X dh B4) w2 (MT X (lU n t (List.replicate t none) dh) uJ):=dg.lM fun g o h=>h.imp id fun h=>(hm g o).1 h
 have qK:∀ b,DG n t dh.length (om n t b)=b:=fun b=>Yuw
 have jY:∀ b,b < dh.length→om n t b < dh.length+t:=fun b hb=>Ywc d2 hb
 refine ⟨_,_,uJ,v,w2,d5,⟨fun b hb=>?_,fun b cf hb=>?_,fun b b' x y L L' m1 m2 m3 m4 hg=>?_,k1.size,k1.p6,k1.gl⟩,?_,⟨k3.os,k3.tape,k3.output,k3.size,fun g o v hc hn=>k3.cell g o v hc fun h=>hn ((sc g o).1 h),fun g hg hn=>k3.block g hg fun o h=>hn o ((sc g o).1 h),
  fun g o h=>(k3.iC g o ((hm g o).1 h)).imp (fun h=>(sc g o).1 h) id,fun b hb=>?_⟩,?_,g5⟩
 ·rw [hlen] at hb
  simp only [uJ]
  rw [if_neg (by omega),if_neg (by omega)]
  exact k1.nC _ (by omega)
 ·obtain ⟨b',y,rfl,q1,rfl⟩:=Io d2 hb
  obtain ⟨L,q2,q3,q4,q5⟩:=k1.cf b' y q1
  have hy:=qA d3 b' y q1
  refine ⟨L,by rw [e0];exact q2,q3,q4,?_⟩
  have q6:fR w2 (MT X dh B4) B4 L (dG (DG n t dh.length) (dG (om n t) y)):=by
   rw [RX,Bk _ dh.length (fun b _=>qK b) y hy];exact q5
  exact (q6.dI (n:=dh.length+t) (Yjd _ _ _ jY y hy)).mono hk fh rfl
 ·obtain ⟨c,x',rfl,q1,rfl⟩:=Io d2 m1
  obtain ⟨c',y',rfl,q2,rfl⟩:=Io d2 m2
  rw [e0] at m3 m4
  rw [k1.inj c c' x' y' L L' q1 q2 m3 m4 hg]
 ·have q6:=bR.dI (π:=DG n t dh.length) (n:=dh.length+t) k2 (dI (om n t) r) (by rw [Lj,FJ _ dh.length (fun b _=>qK b) r d4]) (LC _ _ _ jY r d4)
  exact q6.mono hk fh
 ·rw [ay,bz,hn] at hb
  simp only [uJ]
  by_cases c:b<n
  ·rw [if_pos c,k3.env b c,Env.kH c]
  ·rw [if_neg c,if_pos hb]
 ·rw [hlen,ay,bz];omega
theorem ZF (h:n≤dh.length) (hn : σ.length=n):gQ (fun b=>decide (b<n)) 0 (lU n τ.length (List.replicate τ.length none) dh) (σ++τ)=lU n τ.length τ dh:=by
 apply bO
 intro b
 have hl:(σ++τ).length≤(lU n τ.length (List.replicate τ.length none) dh).length:=by rw [Oo h (by simp),ay];omega
 rw [D0 _ _ _ _ _ hl,bm]
 rcases R2 (n:=n) (t:=τ.length) b with ⟨h1,h2⟩ | ⟨b',rfl⟩
 ·rw [if_pos ⟨by rw [ay];omega,by simp;omega⟩,Iw h rfl h1 h2,bI (by omega),hn]
 ·rw [FH h rfl,FH h (by simp)]
  by_cases c:b'<n
  ·rw [if_neg]
   rw [ET c];simp [c]
  ·rw [if_neg]
   rw [Hf c,ay]
   intro hh;omega
theorem aq.BZ {F:Frame→List Frame→Sem Next→World→Value→World→Prop} {f:ae} {args:List ae} {K:ae→ai→Prop} (hf:f.low σ.length) (ha:bx σ.length args) (hs:bt σ.length σ)
  (h:dt P F f args σ (fun r σ'=>∃ dh,ig dh σ'∧σ.length≤dh.length∧bt dh.length dh∧r.low dh.length∧K (dI (om σ.length τ.length) r) (lU σ.length τ.length τ dh))):dt P F f args (σ++τ) K:=by
 refine aq.frame (fun b=>decide (b < σ.length)) (K':=fun r iO=>∃ dh,σ.length≤dh.length∧iO=lU σ.length τ.length (List.replicate τ.length none) dh∧K r (lU σ.length τ.length τ dh)) ?_ ?_
 ·rw [HM σ.length σ τ 0 (by omega)]
  refine aq.FY _ hf ha hs (h.mono ?_)
  rintro r σ' ⟨dh,d1,d2,d3,d4,d5⟩
  exact ⟨dh,d1,d2,d3,d4,dh,d2,rfl,d5⟩
 ·rintro r iO ⟨dh,h1,rfl,h3⟩
  refine ⟨fun b hb hv=>?_,by rw [ZF h1 rfl];exact h3⟩
  simp only [decide_eq_false_iff_not] at hv
  rw [ay] at hb
  rw [Iw h1 (by simp) (by omega) (by omega),c8,if_pos (by omega)]
end
section
variable {P:Program} {lo:Ctx} {st dZ:St} {Q:cb→St→Prop} {π:Nat→Nat}
theorem lW.wr {Q:cb→St→Prop} {ops:Array Oper} {r l:List Nat} (h:Wr lo.n π dZ st) (iL:lo.n≤dZ.σ.length) (he:lW P lo ops r l dZ Q):lW P lo ops r l st Q:=by
 intro X base mb D β a w b k cs h1 h2 h3
 obtain ⟨hw,hx⟩:=h.rel h3 iL
 obtain ⟨e1,ka,eS,a1,w1,q,g1,g2,g3,g4⟩:=he X base mb D _ a w b k cs iL h2 hw
 exact ⟨e1,ka,eS,a1,w1,q,g1,g2,hx.trans g3,g4⟩
theorem aK.wr {all:Array Oper} {l:List Oper} {k:List KI} (h:Wr lo.n π dZ st) (iL:lo.n≤dZ.σ.length) (he:aK P lo Q (.ops all l :: k) .normal dZ):aK P lo Q (.ops all l :: k) .normal st:=by
 simp only [aK] at he ⊢
 exact fun hs=>lW.wr h iL (he hs)
theorem H_ {n:Nat}:∀ {l:List ae},bx n l→∀ (i:Nat) {a:ae},a.low n→bx n (l.set i a)
 | [],_,_,_,_=>trivial
 | _ :: _,h,0,_,ha=>⟨ha,h.2⟩
 | _ :: _,h,i+1,_,ha=>⟨h.1,H_ h.2 i ha⟩
theorem JP {n m:Nat} (h:n≤m) {x:bE} (hx:x.low n):x.low m:=by
 cases x with
 | var cs=>exact ie h hx
 | row es f=>exact ie h hx
 | map ks vs f=>exact ⟨ie h hx.1,ie h hx.2⟩
 | iter s p=>trivial
 | kZ ks vs s=>exact ⟨ie h hx.1,ie h hx.2⟩
 | loop r=>exact ie h hx
def oJ (m n:Nat) (l:List ae):Prop:=∀ ρ:Nat→Nat,(∀ b,b<m∨n≤b→ρ b=b)→dY ρ l=l
def tO (m n:Nat) (τ:ai):Prop:=∀ ρ:Nat→Nat,(∀ b,b<m∨n≤b→ρ b=b)→∀ x,some x ∈ τ→dG ρ x=x
theorem Kw:∀ l:List ae,lT l l
 | []=>trivial
 | _ :: r=>⟨.inl rfl,Kw r⟩
theorem aK.qF {f:ae} {args:List ae} {σ τ:ai} {T:ae→List ae} {all:Array Oper} {l:List Oper} {k:List KI} (r0:ae) (h3:r0.low 0) (iL:lo.n≤σ.length) (hf:f.low σ.length) (ha:bx σ.length args) (hs:bt σ.length σ)
  (uf:oJ lo.n σ.length (T r0)) (yC:tO lo.n σ.length τ) (bD:bx (σ.length + τ.length) (T r0)) (M_:bt (σ.length + τ.length) τ)
  (h:aq P f args σ (fun r σ'=>r=r0∧σ.length≤σ'.length∧bt σ'.length σ'∧∃ π dh,dh.length = σ.length∧(∀ b,b<lo.n→π b=b)∧(∀ b b',b < σ.length→b' < σ.length→π b = π b'→b=b')∧gb π σ' 0 dh∧bt σ.length dh ∧
   aK P lo Q (.ops all l :: k) .normal ⟨T r0,dh++τ⟩)) :
  aq P f args (σ++τ) (fun r σ'=>aK P lo Q (.ops all l :: k) .normal ⟨T r,σ'⟩):=by
 refine aq.BZ hf ha hs (h.mono ?_)
 rintro r σ' ⟨rfl,h1,h2,π,dh,h4,h5,h6,h7,h8,h9⟩
 refine ⟨σ',fx σ',h1,h2,mP (av _) h3,?_⟩
 rw [zT h3]
 generalize hn : σ.length=n at *
 generalize ht : τ.length=t at *
 let ρ:Nat→Nat:=fun b=>if b<n then om n t (π b) else b
 have dL:∀ b,b<lo.n∨n≤b→ρ b=b:=fun b hb=>by
  simp only [ρ]
  split
  ·rename_i c
   rw [h5 b (by omega),ET c]
  ·rfl
 refine aK.wr (π:=ρ) ⟨fun b hb=>dL b (.inl hb),fun b b' l1 l2 e=>?_,?_,fun b x hb=>?_,?_,fun b x hb=>?_⟩ (by simp only [ay];omega) h9
 ·simp only [ρ] at e
  split at e<;>split at e
  ·exact h6 b b' (by omega) (by omega) (Yuq e)
  ·rename_i c1 c2
   refine absurd ⟨?_,?_⟩ (PF (n:=n) (t:=t) (π b))
   ·rw [e];omega
   ·rw [e];simp only [ay] at l2;omega
  ·rename_i c1 c2
   refine absurd ⟨?_,?_⟩ (PF (n:=n) (t:=t) (π b'))
   ·rw [← e];omega
   ·rw [← e];simp only [ay] at l1;omega
  ·exact e
 ·simp only [uf ρ dL]
  exact Kw _
 ·simp only [ρ]
  simp only at hb ⊢
  by_cases c:b<n
  ·rw [if_pos c,FH h1 ht]
   rw [cm (by omega)] at hb
   have:=HD dh 0 h7 b x hb
   rw [bm] at this
   rw [this]
   simp only [bw]
   rw [RX,Zyw (fun b=>om n t (π b)) ρ n (fun b hb=>by simp only [ρ,if_pos hb]) x (qA h8 b x hb)]
  ·rw [if_neg c]
   rw [bI (by omega),h4] at hb
   have oR:=(aH.1 hb).1
   rw [Iw h1 ht (by omega) (by omega),hb,yC ρ dL x (lK hb)]
 ·simp only [ay,h4,ht]
  exact bD
 ·simp only [ay,h4,ht]
  simp only at hb
  by_cases c:b<n
  ·rw [cm (by omega)] at hb
   exact JP (by omega) (qA h8 b x hb)
  ·rw [bI (by omega)] at hb
   exact qA M_ _ x hb
theorem aK.xM {f:ae} {args:List ae} {σ:ai} {T:ae→List ae} {all:Array Oper} {l:List Oper} {k:List KI} (r0:ae) (h3:r0.low 0) (iL:lo.n≤σ.length) (hf:f.low σ.length) (ha:bx σ.length args) (hs:bt σ.length σ)
  (uf:oJ lo.n σ.length (T r0)) (bD:bx σ.length (T r0))
  (h:aq P f args σ (fun r σ'=>r=r0∧σ.length≤σ'.length∧bt σ'.length σ'∧∃ π dh,dh.length = σ.length∧(∀ b,b<lo.n→π b=b)∧(∀ b b',b < σ.length→b' < σ.length→π b = π b'→b=b')∧gb π σ' 0 dh∧bt σ.length dh ∧
   aK P lo Q (.ops all l :: k) .normal ⟨T r0,dh⟩)) :
  aq P f args σ (fun r σ'=>aK P lo Q (.ops all l :: k) .normal ⟨T r,σ'⟩):=by
 have:=aK.qF (τ:=[]) (T:=T) r0 h3 iL hf ha hs uf (fun _ _ _ h=>by simp at h) bD trivial (h.mono fun r σ' hk=>by
  obtain ⟨k1,k2,k3,π,dh,k4,k5,k6,k7,k8,k9⟩:=hk
  exact ⟨k1,k2,k3,π,dh,k4,k5,k6,k7,k8,by rw [bn];exact k9⟩)
 rwa [bn] at this
end
end Go.cV
