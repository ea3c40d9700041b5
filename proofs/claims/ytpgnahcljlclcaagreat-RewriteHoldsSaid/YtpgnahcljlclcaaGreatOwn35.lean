/- Part 35 of my own framework and of the walks of functions: AcsJ. -/
import Derived.Test.YtpgnahcljlclcaaGreatOwn34
set_option linter.unusedVariables false
set_option linter.unusedSectionVars false
set_option linter.unusedSimpArgs false
namespace Go.Abs
open Go
mutual
theorem Zms (π ρ:Nat→Nat):∀ a:AVal,ren π (ren ρ a)=ren (fun b=>π (ρ b)) a
 | .ptr b _=>rfl
 | .rp b _ _=>rfl
 | .os b _ _ _=>rfl
 | .oc b _ _ _ _=>rfl
 | .anyb=>rfl
 | .yld b=>rfl
 | .map b=>rfl
 | .it b=>rfl
 | .pp cs=>by simp only [ren];rw [Zc9 π ρ cs]
 | .ps _ es=>by simp only [ren];rw [Zc9 π ρ es]
 | .fn _ a c=>by simp only [ren];rw [Zc9 π ρ a,Zc9 π ρ c]
 | .pm ks vs=>by simp only [ren];rw [Zc9 π ρ ks,Zc9 π ρ vs]
 | .agg cs=>by simp only [ren];rw [Zc9 π ρ cs]
 | .tup cs=>by simp only [ren];rw [Zc9 π ρ cs]
 | .iface _ v=>by simp only [ren];rw [Zms π ρ v]
 | .undef=>rfl
 | .bool _=>rfl
 | .int _ _=>rfl
 | .str _=>rfl
 | .nilptr=>rfl
 | .nils=>rfl
 | .nilfn=>rfl
 | .nilmap=>rfl
 | .nilif=>rfl
 | .opq _=>rfl
theorem Zc9 (π ρ:Nat→Nat):∀ l:List AVal,renL π (renL ρ l)=renL (fun b=>π (ρ b)) l
 | []=>rfl
 | a :: as_=>by simp only [renL];rw [Zms π ρ a,Zc9 π ρ as_]
end
mutual
theorem Zo6 (π ρ:Nat→Nat) (n:Nat) (h:∀ b,b<n→π b = ρ b):∀ a:AVal,a.low n→ren π a=ren ρ a
 | .ptr b _,k=>by simp only [ren];rw [h b k]
 | .rp b _ _,k=>by simp only [ren];rw [h b k]
 | .os b _ _ _,k=>by simp only [ren];rw [h b k]
 | .oc b _ _ _ _,k=>by simp only [ren];rw [h b k]
 | .anyb,_=>rfl
 | .yld b,k=>by simp only [ren];rw [h b k]
 | .map b,k=>by simp only [ren];rw [h b k]
 | .it b,k=>by simp only [ren];rw [h b k]
 | .pp cs,k=>by simp only [ren];rw [Zbb π ρ n h cs k]
 | .ps _ es,k=>by simp only [ren];rw [Zbb π ρ n h es k]
 | .fn _ a c,k=>by simp only [ren];rw [Zbb π ρ n h a k.1,Zbb π ρ n h c k.2]
 | .pm ks vs,k=>by simp only [ren];rw [Zbb π ρ n h ks k.1,Zbb π ρ n h vs k.2]
 | .agg cs,k=>by simp only [ren];rw [Zbb π ρ n h cs k]
 | .tup cs,k=>by simp only [ren];rw [Zbb π ρ n h cs k]
 | .iface _ v,k=>by simp only [ren];rw [Zo6 π ρ n h v k]
 | .undef,_=>rfl
 | .bool _,_=>rfl
 | .int _ _,_=>rfl
 | .str _,_=>rfl
 | .nilptr,_=>rfl
 | .nils,_=>rfl
 | .nilfn,_=>rfl
 | .nilmap,_=>rfl
 | .nilif,_=>rfl
 | .opq _,_=>rfl
theorem Zbb (π ρ:Nat→Nat) (n:Nat) (h:∀ b,b<n→π b = ρ b):∀ l:List AVal,lowL n l→renL π l=renL ρ l
 | [],_=>rfl
 | a :: as_,k=>by simp only [renL];rw [Zo6 π ρ n h a k.1,Zbb π ρ n h as_ k.2]
end
mutual
theorem Zqw (π:Nat→Nat) (n m:Nat) (h:∀ b,b<n→π b<m):∀ a:AVal,a.low n→(ren π a).low m
 | .ptr b _,k=>h b k
 | .rp b _ _,k=>h b k
 | .os b _ _ _,k=>h b k
 | .oc b _ _ _ _,k=>h b k
 | .anyb,_=>trivial
 | .yld b,k=>h b k
 | .map b,k=>h b k
 | .it b,k=>h b k
 | .pp cs,k=>Zbt π n m h cs k
 | .ps _ es,k=>Zbt π n m h es k
 | .fn _ a c,k=>⟨Zbt π n m h a k.1,Zbt π n m h c k.2⟩
 | .pm ks vs,k=>⟨Zbt π n m h ks k.1,Zbt π n m h vs k.2⟩
 | .agg cs,k=>Zbt π n m h cs k
 | .tup cs,k=>Zbt π n m h cs k
 | .iface _ v,k=>Zqw π n m h v k
 | .undef,_=>trivial
 | .bool _,_=>trivial
 | .int _ _,_=>trivial
 | .str _,_=>trivial
 | .nilptr,_=>trivial
 | .nils,_=>trivial
 | .nilfn,_=>trivial
 | .nilmap,_=>trivial
 | .nilif,_=>trivial
 | .opq _,_=>trivial
theorem Zbt (π:Nat→Nat) (n m:Nat) (h:∀ b,b<n→π b<m):∀ l:List AVal,lowL n l→lowL m (renL π l)
 | [],_=>trivial
 | a :: as_,k=>⟨Zqw π n m h a k.1,Zbt π n m h as_ k.2⟩
end
theorem Zp2 (π ρ:Nat→Nat) (x:Blk):renB π (renB ρ x)=renB (fun b=>π (ρ b)) x:=by
 cases x<;>simp [renB,Zc9]
theorem Zxp (π ρ:Nat→Nat) (n:Nat) (h:∀ b,b<n→π b = ρ b) (x:Blk) (hx:x.low n):renB π x=renB ρ x:=by
 cases x with
 | var cs=>simp only [renB];rw [Zbb π ρ n h cs hx]
 | row es f=>simp only [renB];rw [Zbb π ρ n h es hx]
 | map ks vs f=>simp only [renB];rw [Zbb π ρ n h ks hx.1,Zbb π ρ n h vs hx.2]
 | iter s p=>rfl
 | mit ks vs s=>simp only [renB];rw [Zbb π ρ n h ks hx.1,Zbb π ρ n h vs hx.2]
 | loop r=>simp only [renB];rw [Zbb π ρ n h r.tm hx]
theorem Ygq (π:Nat→Nat) (n m:Nat) (h:∀ b,b<n→π b<m) (x:Blk) (hx:x.low n):(renB π x).low m:=by
 cases x with
 | var cs=>exact Zbt π n m h cs hx
 | row es f=>exact Zbt π n m h es hx
 | map ks vs f=>exact ⟨Zbt π n m h ks hx.1,Zbt π n m h vs hx.2⟩
 | iter s p=>trivial
 | mit ks vs s=>exact ⟨Zbt π n m h ks hx.1,Zbt π n m h vs hx.2⟩
 | loop r=>exact Zbt π n m h r.tm hx
theorem Zfd (π:Nat→Nat) (n:Nat) (h:∀ b,b<n→π b=b) (x:Blk) (hx:x.low n):renB π x=x:=by
 cases x with
 | var cs=>simp only [renB];rw [Zbj π n h cs hx]
 | row es f=>simp only [renB];rw [Zbj π n h es hx]
 | map ks vs f=>simp only [renB];rw [Zbj π n h ks hx.1,Zbj π n h vs hx.2]
 | iter s p=>rfl
 | mit ks vs s=>simp only [renB];rw [Zbj π n h ks hx.1,Zbj π n h vs hx.2]
 | loop r=>simp only [renB];rw [Zbj π n h r.tm hx]
def om (n t b:Nat):Nat:=if b<n then b else b+t
def midS (n t:Nat) (τ σ1:Store):Store:=(σ1.take n).map (Option.map (renB (om n t)))++(τ++(σ1.drop n).map (Option.map (renB (om n t))))
section
variable {P:Program} {X:Nat→Nat→Prop} {base:Nat} {σ σ1 τ:Store} {β β':Env} {w w':World} {n t:Nat}
theorem Yd2 {b:Nat} (h:b<n):om n t b=b:=if_pos h
theorem Yfe {b:Nat} (h:¬ b<n):om n t b=b+t:=if_neg h
theorem Zz0 (h:n≤σ1.length) (ht : τ.length=t):(midS n t τ σ1).length = σ1.length+t:=by
 simp only [midS,List.length_append,List.length_map,List.length_take,List.length_drop];omega
theorem Zpt (h:n≤σ1.length) (ht : τ.length=t) (b:Nat):(midS n t τ σ1)[om n t b]? = (σ1[b]?).map (Option.map (renB (om n t))):=by
 have hl:((σ1.take n).map (Option.map (renB (om n t)))).length=n:=by simp;omega
 by_cases hb:b<n
 ·rw [Yd2 hb,midS,List.getElem?_append_left (by omega),List.getElem?_map,List.getElem?_take,if_pos hb]
 ·rw [Yfe hb,midS,List.getElem?_append_right (by omega),hl,List.getElem?_append_right (by omega),List.getElem?_map,List.getElem?_drop]
  congr 2;omega
theorem Zmo (h:n≤σ1.length) (ht : τ.length=t) {b:Nat} (h1:n≤b) (h2:b<n+t):(midS n t τ σ1)[b]? = τ[b - n]?:=by
 have hl:((σ1.take n).map (Option.map (renB (om n t)))).length=n:=by simp;omega
 rw [midS,List.getElem?_append_right (by omega),hl,List.getElem?_append_left (by omega)]
theorem Zpg (b:Nat):(n≤b∧b<n+t)∨∃ b',b=om n t b':=by
 by_cases h1:b<n
 ·exact .inr ⟨b,(Yd2 h1).symm⟩
 ·by_cases h2:b<n+t
  ·exact .inl ⟨by omega,h2⟩
  ·exact .inr ⟨b - t,by rw [Yfe (by omega)];omega⟩
theorem Yqa {b b':Nat} (h:om n t b=om n t b'):b=b':=by
 unfold om at h;split at h<;>split at h<;>omega
theorem Yii (b:Nat):¬ (n≤om n t b∧om n t b<n+t):=by unfold om;split<;>omega
theorem Ys2 {b m:Nat} (hm:n≤m) (h:b<m):om n t b<m+t:=by unfold om;split<;>omega
def omI (n t m b:Nat):Nat:=if b<n then b else if b<n+t then m else b - t
theorem Ypd {m b:Nat}:omI n t m (om n t b)=b:=by
 unfold omI om
 by_cases h:b<n
 ·simp [h]
 ·rw [if_neg h,if_neg (by omega),if_neg (by omega)];omega
theorem Zir {b:Nat} {x:Blk} (h:n≤σ1.length) (hx:(midS n t (List.replicate t none) σ1)[b]? = some (some x)):∃ b' y,b=om n t b'∧σ1[b']? = some (some y)∧x=renB (om n t) y:=by
 rcases Zpg (n:=n) (t:=t) b with ⟨h1,h2⟩ | ⟨b',rfl⟩
 ·rw [Zmo h (by simp) h1 h2] at hx
  exact absurd hx Zto
 ·rw [Zpt h (by simp)] at hx
  cases e : σ1[b']? with
  | none=>rw [e] at hx;cases hx
  | some o =>
   rw [e] at hx
   cases o with
   | none=>cases hx
   | some y=>cases hx;exact ⟨b',y,rfl,e,rfl⟩
theorem VCall.growG {F:Frame→List Frame→Sem Next→World→Value→World→Prop} {f:AVal} {args:List AVal} {K:AVal→Store→Prop} (t:Nat) (hf:f.low σ.length) (ha:lowL σ.length args) (hs:lowSo σ.length σ)
  (h:VCallG P F f args σ (fun r σ'=>∃ σ1,leSo σ1 σ'∧σ.length≤σ1.length∧lowSo σ1.length σ1∧r.low σ1.length∧K (ren (om σ.length t) r) (midS σ.length t (List.replicate t none) σ1))):VCallG P F f args (σ++List.replicate t none) K:=by
 intro X base β w vf vs h1 h1' h2 h3 fr cs h4
 have hle:leS σ (σ++List.replicate t none):=fun b x hb=>Zc1.2 hb
 obtain ⟨r,σ2,β2,v,w2,⟨σ1,d1,d2,d3,d4,d5⟩,g1,g2,g3,g4,g5⟩:=h X base (β.cut σ.length) w vf vs (h1.drop hle rfl (Zat hs)) (h1'.drop hle rfl hf) h2 (fun i hi=>(h3 i hi).drop hle rfl (Zaa ha i)) fr cs h4
 have k1:=g1.drop (Zbu d1) rfl (Zat d3)
 have k2:=g2.drop (Zbu d1) rfl d4
 have k3:=g3.drop (Zbu d1) rfl d2
 generalize β2.cut σ1.length = βc at *
 generalize hn : σ.length=n at *
 let β3:Env:=fun b=>if b<n then βc b else if b<n+t then β b else βc (b - t)
 have hlen:(midS n t (List.replicate t none) σ1).length = σ1.length+t:=Zz0 d2 (by simp)
 have e0:∀ b,β3 (om n t b) = βc b:=fun b=>by
  by_cases hb:b<n
  ·rw [Yd2 hb];exact if_pos hb
  ·rw [Yfe hb];simp only [β3];rw [if_neg (by omega),if_neg (by omega),Nat.add_sub_cancel]
 have hin:∀ b L,envR βc (omI n t σ1.length) (σ1.length+t) b=some L→β3 b=some L:=fun b L hb=>by
  simp only [envR] at hb
  split at hb
  ·simp only [omI] at hb
   simp only [β3]
   split at hb
   ·rename_i c;rw [if_pos c];exact hb
   ·rename_i c
    rw [if_neg c]
    split at hb
    ·rw [k1.dom _ (Nat.le_refl _)] at hb;cases hb
    ·rename_i c2;rw [if_neg c2];exact hb
  ·cases hb
 have hm:∀ g o,Mof (midS n t (List.replicate t none) σ1) β3 g o↔Mof σ1 βc g o:=fun g o=>by
  constructor
  ·rintro ⟨b,blk,L,m1,m2,m3,m4⟩
   obtain ⟨b',y,rfl,q1,rfl⟩:=Zir d2 m1
   rw [e0] at m2
   rw [Zgq] at m4
   exact ⟨b',y,L,q1,m2,m3,m4⟩
  ·rintro ⟨b,blk,L,m1,m2,m3,m4⟩
   exact ⟨om n t b,renB (om n t) blk,L,by rw [Zpt d2 (by simp),m1];rfl,by rw [e0];exact m2,m3,by rw [Zgq];exact m4⟩
 have hm0:∀ g o,Mof σ (β.cut n) g o↔Mof (σ++List.replicate t none) β g o:=fun g o=>by
  rw [Zdp]
  constructor
  ·rintro ⟨b,blk,L,m1,m2,m3⟩
   have hb:=(List.getElem?_eq_some_iff.1 m1).1
   exact ⟨b,blk,L,m1,by rw [Env.cut_lt (by omega)] at m2;exact m2,m3⟩
  ·rintro ⟨b,blk,L,m1,m2,m3⟩
   have hb:=(List.getElem?_eq_some_iff.1 m1).1
   exact ⟨b,blk,L,m1,by rw [Env.cut_lt (by omega)];exact m2,m3⟩
 have hk:Keeps w2 (MT X σ1 βc) w2 (MT X (midS n t (List.replicate t none) σ1) β3):=Keeps.anti fun g o h=>h.imp id fun h=>(hm g o).1 h
 have hback:∀ b,omI n t σ1.length (om n t b)=b:=fun b=>Ypd
 have hlow:∀ b,b < σ1.length→om n t b < σ1.length+t:=fun b hb=>Ys2 d2 hb
 refine ⟨_,_,β3,v,w2,d5,⟨fun b hb=>?_,fun b blk hb=>?_,fun b b' x y L L' m1 m2 m3 m4 hg=>?_,k1.size,k1.xlt,k1.gl⟩,?_,⟨k3.os,k3.tape,k3.output,k3.size,fun g o v hc hn=>k3.cell g o v hc fun h=>hn ((hm0 g o).1 h),fun g hg hn=>k3.block g hg fun o h=>hn o ((hm0 g o).1 h),
  fun g o h=>(k3.newM g o ((hm g o).1 h)).imp (fun h=>(hm0 g o).1 h) id,fun b hb=>?_⟩,?_,g5⟩
 ·rw [hlen] at hb
  simp only [β3]
  rw [if_neg (by omega),if_neg (by omega)]
  exact k1.dom _ (by omega)
 ·obtain ⟨b',y,rfl,q1,rfl⟩:=Zir d2 hb
  obtain ⟨L,q2,q3,q4,q5⟩:=k1.blk b' y q1
  have hy:=Zat d3 b' y q1
  refine ⟨L,by rw [e0];exact q2,q3,q4,?_⟩
  have q6:BlkOk w2 (MT X σ1 βc) βc L (renB (omI n t σ1.length) (renB (om n t) y)):=by
   rw [Zp2,Zfd _ σ1.length (fun b _=>hback b) y hy];exact q5
  exact (q6.ren (n:=σ1.length+t) (Ygq _ _ _ hlow y hy)).mono hk hin rfl
 ·obtain ⟨c,x',rfl,q1,rfl⟩:=Zir d2 m1
  obtain ⟨c',y',rfl,q2,rfl⟩:=Zir d2 m2
  rw [e0] at m3 m4
  rw [k1.inj c c' x' y' L L' q1 q2 m3 m4 hg]
 ·have q6:=Rep.ren (π:=omI n t σ1.length) (n:=σ1.length+t) k2 (ren (om n t) r) (by rw [Zms,Zov _ σ1.length (fun b _=>hback b) r d4]) (Zqw _ _ _ hlow r d4)
  exact q6.mono hk hin
 ·rw [List.length_append,List.length_replicate,hn] at hb
  simp only [β3]
  by_cases c:b<n
  ·rw [if_pos c,k3.env b c,Env.cut_lt c]
  ·rw [if_neg c,if_pos hb]
 ·rw [hlen,List.length_append,List.length_replicate];omega
theorem Yg5 (h:n≤σ1.length) (hn : σ.length=n):backS (fun b=>decide (b<n)) 0 (midS n τ.length (List.replicate τ.length none) σ1) (σ++τ)=midS n τ.length τ σ1:=by
 apply List.ext_getElem?
 intro b
 have hl:(σ++τ).length≤(midS n τ.length (List.replicate τ.length none) σ1).length:=by rw [Zz0 h (by simp),List.length_append];omega
 rw [Zef _ _ _ _ _ hl,Nat.zero_add]
 rcases Zpg (n:=n) (t:=τ.length) b with ⟨h1,h2⟩ | ⟨b',rfl⟩
 ·rw [if_pos ⟨by rw [List.length_append];omega,by simp;omega⟩,Zmo h rfl h1 h2,List.getElem?_append_right (by omega),hn]
 ·rw [Zpt h rfl,Zpt h (by simp)]
  by_cases c:b'<n
  ·rw [if_neg]
   rw [Yd2 c];simp [c]
  ·rw [if_neg]
   rw [Yfe c,List.length_append]
   intro hh;omega
theorem VCall.tailG {F:Frame→List Frame→Sem Next→World→Value→World→Prop} {f:AVal} {args:List AVal} {K:AVal→Store→Prop} (hf:f.low σ.length) (ha:lowL σ.length args) (hs:lowSo σ.length σ)
  (h:VCallG P F f args σ (fun r σ'=>∃ σ1,leSo σ1 σ'∧σ.length≤σ1.length∧lowSo σ1.length σ1∧r.low σ1.length∧K (ren (om σ.length τ.length) r) (midS σ.length τ.length τ σ1))):VCallG P F f args (σ++τ) K:=by
 refine VCall.frame (fun b=>decide (b < σ.length)) (K':=fun r σ2=>∃ σ1,σ.length≤σ1.length∧σ2=midS σ.length τ.length (List.replicate τ.length none) σ1∧K r (midS σ.length τ.length τ σ1)) ?_ ?_
 ·rw [Zhi σ.length σ τ 0 (by omega)]
  refine VCall.growG _ hf ha hs (h.mono ?_)
  rintro r σ' ⟨σ1,d1,d2,d3,d4,d5⟩
  exact ⟨σ1,d1,d2,d3,d4,σ1,d2,rfl,d5⟩
 ·rintro r σ2 ⟨σ1,h1,rfl,h3⟩
  refine ⟨fun b hb hv=>?_,by rw [Yg5 h1 rfl];exact h3⟩
  simp only [decide_eq_false_iff_not] at hv
  rw [List.length_append] at hb
  rw [Zmo h1 (by simp) (by omega) (by omega),List.getElem?_replicate,if_pos (by omega)]
end
section
variable {P:Program} {lo:Ctx} {st st':St} {Q:AExit→St→Prop} {π:Nat→Nat}
theorem EvR.wr {Q:AExit→St→Prop} {ops:Array Oper} {r l:List Nat} (h:Wr lo.n π st' st) (hlo:lo.n≤st'.σ.length) (he:EvR P lo ops r l st' Q):EvR P lo ops r l st Q:=by
 intro X base mb D β a w b k cs h1 h2 h3
 obtain ⟨hw,hx⟩:=h.rel h3 hlo
 obtain ⟨e1,st1,β1,a1,w1,q,g1,g2,g3,g4⟩:=he X base mb D _ a w b k cs hlo h2 hw
 exact ⟨e1,st1,β1,a1,w1,q,g1,g2,hx.trans g3,g4⟩
theorem EvK.wr {all:Array Oper} {l:List Oper} {k:List KI} (h:Wr lo.n π st' st) (hlo:lo.n≤st'.σ.length) (he:EvK P lo Q (.ops all l :: k) .normal st'):EvK P lo Q (.ops all l :: k) .normal st:=by
 simp only [EvK] at he ⊢
 exact fun hs=>EvR.wr h hlo (he hs)
theorem Zj7 {n:Nat}:∀ {l:List AVal},lowL n l→∀ (i:Nat) {a:AVal},a.low n→lowL n (l.set i a)
 | [],_,_,_,_=>trivial
 | _ :: _,h,0,_,ha=>⟨ha,h.2⟩
 | _ :: _,h,i+1,_,ha=>⟨h.1,Zj7 h.2 i ha⟩
theorem Zfc {n m:Nat} (h:n≤m) {x:Blk} (hx:x.low n):x.low m:=by
 cases x with
 | var cs=>exact Zac h hx
 | row es f=>exact Zac h hx
 | map ks vs f=>exact ⟨Zac h hx.1,Zac h hx.2⟩
 | iter s p=>trivial
 | mit ks vs s=>exact ⟨Zac h hx.1,Zac h hx.2⟩
 | loop r=>exact Zac h hx
def awayL (m n:Nat) (l:List AVal):Prop:=∀ ρ:Nat→Nat,(∀ b,b<m∨n≤b→ρ b=b)→renL ρ l=l
def awayS (m n:Nat) (τ:Store):Prop:=∀ ρ:Nat→Nat,(∀ b,b<m∨n≤b→ρ b=b)→∀ x,some x ∈ τ→renB ρ x=x
theorem Zjc:∀ l:List AVal,leTm l l
 | []=>trivial
 | _ :: r=>⟨.inl rfl,Zjc r⟩
theorem EvK.callS {f:AVal} {args:List AVal} {σ τ:Store} {T:AVal→List AVal} {all:Array Oper} {l:List Oper} {k:List KI} (r0:AVal) (h3:r0.low 0) (hlo:lo.n≤σ.length) (hf:f.low σ.length) (ha:lowL σ.length args) (hs:lowSo σ.length σ)
  (hav:awayL lo.n σ.length (T r0)) (hτ:awayS lo.n σ.length τ) (hlt:lowL (σ.length + τ.length) (T r0)) (hlτ:lowSo (σ.length + τ.length) τ)
  (h:VCall P f args σ (fun r σ'=>r=r0∧σ.length≤σ'.length∧lowSo σ'.length σ'∧∃ π σ1,σ1.length = σ.length∧(∀ b,b<lo.n→π b=b)∧(∀ b b',b < σ.length→b' < σ.length→π b = π b'→b=b')∧leSoR π σ' 0 σ1∧lowSo σ.length σ1 ∧
   EvK P lo Q (.ops all l :: k) .normal ⟨T r0,σ1++τ⟩)) :
  VCall P f args (σ++τ) (fun r σ'=>EvK P lo Q (.ops all l :: k) .normal ⟨T r,σ'⟩):=by
 refine VCall.tailG hf ha hs (h.mono ?_)
 rintro r σ' ⟨rfl,h1,h2,π,σ1,h4,h5,h6,h7,h8,h9⟩
 refine ⟨σ',Za9 σ',h1,h2,Zau (Nat.zero_le _) h3,?_⟩
 rw [Ziw h3]
 generalize hn : σ.length=n at *
 generalize ht : τ.length=t at *
 let ρ:Nat→Nat:=fun b=>if b<n then om n t (π b) else b
 have hρ:∀ b,b<lo.n∨n≤b→ρ b=b:=fun b hb=>by
  simp only [ρ]
  split
  ·rename_i c
   rw [h5 b (by omega),Yd2 c]
  ·rfl
 refine EvK.wr (π:=ρ) ⟨fun b hb=>hρ b (.inl hb),fun b b' l1 l2 e=>?_,?_,fun b x hb=>?_,?_,fun b x hb=>?_⟩ (by simp only [List.length_append];omega) h9
 ·simp only [ρ] at e
  split at e<;>split at e
  ·exact h6 b b' (by omega) (by omega) (Yqa e)
  ·rename_i c1 c2
   refine absurd ⟨?_,?_⟩ (Yii (n:=n) (t:=t) (π b))
   ·rw [e];omega
   ·rw [e];simp only [List.length_append] at l2;omega
  ·rename_i c1 c2
   refine absurd ⟨?_,?_⟩ (Yii (n:=n) (t:=t) (π b'))
   ·rw [← e];omega
   ·rw [← e];simp only [List.length_append] at l1;omega
  ·exact e
 ·simp only [hav ρ hρ]
  exact Zjc _
 ·simp only [ρ]
  simp only at hb ⊢
  by_cases c:b<n
  ·rw [if_pos c,Zpt h1 ht]
   rw [List.getElem?_append_left (by omega)] at hb
   have:=Zg4 σ1 0 h7 b x hb
   rw [Nat.zero_add] at this
   rw [this]
   simp only [Option.map_some]
   rw [Zp2,Zxp (fun b=>om n t (π b)) ρ n (fun b hb=>by simp only [ρ,if_pos hb]) x (Zat h8 b x hb)]
  ·rw [if_neg c]
   rw [List.getElem?_append_right (by omega),h4] at hb
   have hlt2:=(List.getElem?_eq_some_iff.1 hb).1
   rw [Zmo h1 ht (by omega) (by omega),hb,hτ ρ hρ x (List.mem_of_getElem? hb)]
 ·simp only [List.length_append,h4,ht]
  exact hlt
 ·simp only [List.length_append,h4,ht]
  simp only at hb
  by_cases c:b<n
  ·rw [List.getElem?_append_left (by omega)] at hb
   exact Zfc (by omega) (Zat h8 b x hb)
  ·rw [List.getElem?_append_right (by omega)] at hb
   exact Zat hlτ _ x hb
theorem EvK.callS0 {f:AVal} {args:List AVal} {σ:Store} {T:AVal→List AVal} {all:Array Oper} {l:List Oper} {k:List KI} (r0:AVal) (h3:r0.low 0) (hlo:lo.n≤σ.length) (hf:f.low σ.length) (ha:lowL σ.length args) (hs:lowSo σ.length σ)
  (hav:awayL lo.n σ.length (T r0)) (hlt:lowL σ.length (T r0))
  (h:VCall P f args σ (fun r σ'=>r=r0∧σ.length≤σ'.length∧lowSo σ'.length σ'∧∃ π σ1,σ1.length = σ.length∧(∀ b,b<lo.n→π b=b)∧(∀ b b',b < σ.length→b' < σ.length→π b = π b'→b=b')∧leSoR π σ' 0 σ1∧lowSo σ.length σ1 ∧
   EvK P lo Q (.ops all l :: k) .normal ⟨T r0,σ1⟩)) :
  VCall P f args σ (fun r σ'=>EvK P lo Q (.ops all l :: k) .normal ⟨T r,σ'⟩):=by
 have:=EvK.callS (τ:=[]) (T:=T) r0 h3 hlo hf ha hs hav (fun _ _ _ h=>by simp at h) hlt trivial (h.mono fun r σ' hk=>by
  obtain ⟨k1,k2,k3,π,σ1,k4,k5,k6,k7,k8,k9⟩:=hk
  exact ⟨k1,k2,k3,π,σ1,k4,k5,k6,k7,k8,by rw [List.append_nil];exact k9⟩)
 rwa [List.append_nil] at this
end
end Go.Abs
