/- Part 37 of my own framework and of the walks of functions: AcsL. -/
import Derived.Test.YtfjbdamcmiglgaaGreatOwn36
set_option linter.unusedVariables false
set_option linter.unusedSectionVars false
set_option linter.unusedSimpArgs false
namespace Go.dm
open Go
def yY (b:Nat) (cs:List ah):ah→ah
 | .ptr b' o=>if b'=b∧o=0 then .pp cs else .ptr b' o
 | a=>a
def uF (b:Nat) (cs:List ah):ah→ah
 | .fn g x y=>.fn g (x.map (yY b cs)) (y.map (yY b cs))
 | a=>yY b cs a
section
variable {P:Program} {X:Nat→Nat→Prop} {base:Nat} {σ:ai} {β β':Env} {w w':World}
theorem Fw {b c:Nat} {x:bO} (h:(σ.set b none)[c]? = some (some x)):c≠b∧σ[c]? = some (some x):=by
 rw [dz] at h;by_cases e:b=c
 ·rw [if_pos e] at h;split at h<;>cases h
 ·rw [if_neg e] at h;exact ⟨fun e'=>e e'.symm,h⟩
theorem Bk {b g o:Nat} (h:jr (σ.set b none) β g o):jr σ β g o:=by
 obtain ⟨c,x,L,m1,m2⟩:=h;exact ⟨c,x,L,(Fw m1).2,m2⟩
theorem Nz {b:Nat} {cs:List ah} (hr:cS X base σ β w) (hb : σ[b]? = some (some (.var cs))) {v:Value} {a:ah} (h:cf w (MT X σ β) β v a):cf w (MT X (σ.set b none) β) β v (yY b cs a):=by
 have hk:dD w (MT X σ β) w (MT X (σ.set b none) β):=dD.mh fun g o h=>h.imp id Bk;cases a with
 | ptr b' o =>
  simp only [yY];split
  ·rename_i e;obtain ⟨rfl,rfl⟩:=e;cases h with
   | @ptr _ _ L hh =>
    obtain ⟨L',q1,q2,q3,c,e,q4,q5,q6,q7⟩:=hr.cw b' _ hb;obtain rfl:=aP (q1.symm.trans hh);have hM:∀ o, ¬ MT X (σ.set b' none) β L'.g o:=by
     rintro o (hx | ⟨c2,y,L2,m1,m2,m3,m4⟩)
     ·exact q3 _ hx
     ·obtain ⟨n1,n2⟩:=Fw m1;exact n1 (hr.inj c2 b' y _ L2 L' n2 hb m2 q1 m3)
    refine .pp (fun k=>c.getD k undef) (fun k e7=>⟨?_,hM _⟩) fun k e7=>(q7 k e7).mono hk (fun _ _ h=>h);have:L'.o+0+k=k:=by omega
    rw [this,cell_of_row w L'.g _ c e (0,0) q4,uO (by omega)]
  ·exact h.mono hk (fun _ _ h=>h)
 | _=>exact h.mono hk (fun _ _ h=>h)
theorem Ytf {b:Nat} {cs:List ah} (hr:cS X base σ β w) (hb : σ[b]? = some (some (.var cs))) {v:Value} {a:ah} (h:cf w (MT X σ β) β v a):cf w (MT X (σ.set b none) β) β v (uF b cs a):=by
 have hd:∀ (l:List ah) (k:Nat),(l.map (yY b cs)).getD k .undef=yY b cs (l.getD k .undef):=fun l k=>by
  simp only [cq,cu];cases l[k]?<;>rfl
 cases a with
 | fn g x y =>
  simp only [uF];cases h with
  | fn e1 e2 r1 r2 =>
   refine .fn (by simpa using e1) (by simpa using e2) (fun k hk=>?_) (fun k hk=>?_)
   ·rw [hd];exact Nz hr hb (r1 k (by simpa using hk))
   ·rw [hd];exact Nz hr hb (r2 k (by simpa using hk))
 | _=>exact Nz hr hb h
theorem aq.uq {g:FuncId} {first captured args args':List ah} {K:ah→ai→Prop} {r:ah} {b:Nat} {cs:List ah} (bs:List Nat) (hb:bP σ b=some (.var cs)) (hc:aD P g args' r) (hp:lj (among bs) (σ.set b none) args' ((first++args++captured).map (uF b cs))) (hl:bF 0 args')
  (D0:bC r=true) (hk:K r σ):aq P (.fn g first captured) args σ K:=by
 refine aq.sh ?_;intro X base β w vs h1 h2 h3 fr nL h4;have nN:=kq hb;have hd:∀ (l:List ah) (k:Nat),k<l.length→(l.map (uF b cs)).getD k .undef=uF b cs (l.getD k .undef):=fun l k hk=>by
  simp [cq,hk]
 have Ob:cS X base (σ.set b none) β w:=h1.less (fun c x hc=>(Fw hc).2) bj;have h3e:∀ k,k<(first++args++captured).length→cf w (MT X (σ.set b none) β) β (vs.getD k undef) (((first++args++captured).map (uF b cs)).getD k .undef):=fun k hk=>by
  rw [hd _ _ hk];exact Ytf h1 nN (h3 k hk)
 have oM:=A8 (among bs) (σ.set b none);generalize zD:gD (among bs) 0 (σ.set b none) = lI at *
 have hf:=oM.pf;have yu:=Ob.pf hf;obtain ⟨e1,e2⟩:=uT yu oM args' hp;rw [aj] at e1;have e3:∀ k,k<args'.length→cf w (MT X lI β) β (vs.getD k undef) (args'.getD k .undef):=fun k e7=>(e2 k e7).1 _ ((h3e k (by omega)).mono (Ci hf) (fun _ _ h=>h));have EA:∀ b,b<0→(fun _=>none:Env) b = β b:=fun b hb=>by omega
 have Oo:∀ g' o,MT X lI β g' o→g'<w.heap.size:=by
  rintro g' o (hx | ⟨b,y,L,m1,m2,rfl,m4⟩)
  ·exact h1.qL g' o hx
  ·exact GZ yu m1 m2
 have ow:cS (MT X lI β) base [] (fun _=>none) w:=⟨fun _ _=>rfl,fun b y hb=>by simp at hb,fun b b' y y' L L' hb=>by simp at hb,h1.size,Oo,h1.gl⟩;have y7:∀ (β':Env) (w:World),dD w (MT X lI β) w (MT (MT X lI β) [] β'):=fun β' w=>dD.mh fun g' o h=>by rcases h with h | h;exact h;exact absurd h Fz
 obtain ⟨r',σ',β',v,w',⟨rfl,rfl⟩,g1,g2,g3,g4,g5⟩:=hc.1 (MT X lI β) base (fun _=>none) w vs ow (by omega) (fun k e7 =>
  ((e3 k (by omega)).low EA (jz hl k)).mono (y7 _ _) (fun _ _ h=>h)) fr nL h4
 have jI:∀ g',g'<w.heap.size→w'.heap[g']? = w.heap[g']?:=fun g' uI=>g3.block g' uI fun o=>Fz;have xo:Ext σ.length σ β w σ β w' :=
  ⟨g3.os,g3.tape,g3.output,g3.size,fun g' o x Hy _=>by rw [World.cell?_of_block (w:=w) (a:=⟨g',o,none⟩) (jI g' (yP Hy))];exact Hy,fun g' uI _=>jI g' uI,fun g' o hm=>.inl hm,fun _ _=>rfl⟩
 exact ⟨r',σ,β,v,w',hk,(h1.kept g3.size jI).1,V0 g2 D0,xo,ae _,g5⟩
end
end Go.dm
