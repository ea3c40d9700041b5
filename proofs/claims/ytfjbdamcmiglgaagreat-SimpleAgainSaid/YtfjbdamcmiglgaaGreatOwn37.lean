/- Part 37 of my own framework and of the walks of functions: AcsL. -/
import Derived.Test.YtfjbdamcmiglgaaGreatOwn36
set_option linter.unusedVariables false
set_option linter.unusedSectionVars false
set_option linter.unusedSimpArgs false
namespace Go.c8
open Go
def yb (b:Nat) (cs:List ae):ae→ae
 | .ptr b' o=>if b'=b∧o=0 then .pp cs else .ptr b' o
 | a=>a
def tB (b:Nat) (cs:List ae):ae→ae
 | .fn g x y=>.fn g (x.map (yb b cs)) (y.map (yb b cs))
 | a=>yb b cs a
section
variable {P:Program} {X:Nat→Nat→Prop} {base:Nat} {σ:ai} {β β':Env} {w w':World}
theorem Eu {b c:Nat} {x:bE} (h:(σ.set b none)[c]? = some (some x)):c≠b∧σ[c]? = some (some x):=by
 rw [dX] at h
 by_cases e:b=c
 ·rw [if_pos e] at h;split at h<;>cases h
 ·rw [if_neg e] at h;exact ⟨fun e'=>e e'.symm,h⟩
theorem Ai {b g o:Nat} (h:ja (σ.set b none) β g o):ja σ β g o:=by
 obtain ⟨c,x,L,m1,m2⟩:=h
 exact ⟨c,x,L,(Eu m1).2,m2⟩
theorem Mj {b:Nat} {cs:List ae} (hr:cH X base σ β w) (hb : σ[b]? = some (some (.var cs))) {v:Value} {a:ae} (h:bS w (MT X σ β) β v a):bS w (MT X (σ.set b none) β) β v (yb b cs a):=by
 have hk:di w (MT X σ β) w (MT X (σ.set b none) β):=di.l5 fun g o h=>h.imp id Ai
 cases a with
 | ptr b' o =>
  simp only [yb]
  split
  ·rename_i e
   obtain ⟨rfl,rfl⟩:=e
   cases h with
   | @ptr _ _ L hh =>
    obtain ⟨L',q1,q2,q3,c,e,q4,q5,q6,q7⟩:=hr.cg b' _ hb
    obtain rfl:=aN (q1.symm.trans hh)
    have hM:∀ o, ¬ MT X (σ.set b' none) β L'.g o:=by
     rintro o (hx | ⟨c2,y,L2,m1,m2,m3,m4⟩)
     ·exact q3 _ hx
     ·obtain ⟨n1,n2⟩:=Eu m1
      exact n1 (hr.inj c2 b' y _ L2 L' n2 hb m2 q1 m3)
    refine .pp (fun k=>c.getD k undef) (fun k eE=>⟨?_,hM _⟩) fun k eE=>(q7 k eE).mono hk (fun _ _ h=>h)
    have:L'.o+0+k=k:=by omega
    rw [this,cell_of_row w L'.g _ c e (0,0) q4,tM (by omega)]
  ·exact h.mono hk (fun _ _ h=>h)
 | _=>exact h.mono hk (fun _ _ h=>h)
theorem Yqa {b:Nat} {cs:List ae} (hr:cH X base σ β w) (hb : σ[b]? = some (some (.var cs))) {v:Value} {a:ae} (h:bS w (MT X σ β) β v a):bS w (MT X (σ.set b none) β) β v (tB b cs a):=by
 have hd:∀ (l:List ae) (k:Nat),(l.map (yb b cs)).getD k .undef=yb b cs (l.getD k .undef):=fun l k=>by
  simp only [dp,cf]
  cases l[k]?<;>rfl
 cases a with
 | fn g x y =>
  simp only [tB]
  cases h with
  | fn e1 e2 r1 r2 =>
   refine .fn (by simpa using e1) (by simpa using e2) (fun k hk=>?_) (fun k hk=>?_)
   ·rw [hd];exact Mj hr hb (r1 k (by simpa using hk))
   ·rw [hd];exact Mj hr hb (r2 k (by simpa using hk))
 | _=>exact Mj hr hb h
theorem aq.tb {g:FuncId} {first captured args args':List ae} {K:ae→ai→Prop} {r:ae} {b:Nat} {cs:List ae} (bs:List Nat) (hb:bH σ b=some (.var cs)) (hc:aJ P g args' r) (hp:kO (among bs) (σ.set b none) args' ((first++args++captured).map (tB b cs))) (hl:bz 0 args')
  (C8:bP r=true) (hk:K r σ):aq P (.fn g first captured) args σ K:=by
 refine aq.sh ?_
 intro X base β w vs h1 h2 h3 fr ni h4
 have nn:=j_ hb
 have hd:∀ (l:List ae) (k:Nat),k<l.length→(l.map (tB b cs)).getD k .undef=tB b cs (l.getD k .undef):=fun l k hk=>by
  simp [dp,hk]
 have ME:cH X base (σ.set b none) β w:=h1.less (fun c x hc=>(Eu hc).2) bg
 have h3e:∀ k,k<(first++args++captured).length→bS w (MT X (σ.set b none) β) β (vs.getD k undef) (((first++args++captured).map (tB b cs)).getD k .undef):=fun k hk=>by
  rw [hd _ _ hk];exact Yqa h1 nn (h3 k hk)
 have od:=zX (among bs) (σ.set b none)
 generalize yN:fZ (among bs) 0 (σ.set b none) = ll at *
 have hf:=od.oH
 have xC:=ME.oH hf
 obtain ⟨e1,e2⟩:=tU xC od args' hp
 rw [ak] at e1
 have e3:∀ k,k<args'.length→bS w (MT X ll β) β (vs.getD k undef) (args'.getD k .undef):=fun k eE=>(e2 k eE).1 _ ((h3e k (by omega)).mono (Bo hf) (fun _ _ h=>h))
 have DK:∀ b,b<0→(fun _=>none:Env) b = β b:=fun b hb=>by omega
 have MR:∀ g' o,MT X ll β g' o→g'<w.heap.size:=by
  rintro g' o (hx | ⟨b,y,L,m1,m2,rfl,m4⟩)
  ·exact h1.qd g' o hx
  ·exact FZ xC m1 m2
 have nT:cH (MT X ll β) base [] (fun _=>none) w:=⟨fun _ _=>rfl,fun b y hb=>by simp at hb,fun b b' y y' L L' hb=>by simp at hb,h1.size,MR,h1.gl⟩
 have yi:∀ (β':Env) (w:World),di w (MT X ll β) w (MT (MT X ll β) [] β'):=fun β' w=>di.l5 fun g' o h=>by rcases h with h | h;exact h;exact absurd h Ew
 obtain ⟨r',σ',β',v,w',⟨rfl,rfl⟩,g1,g2,g3,g4,g5⟩:=hc.1 (MT X ll β) base (fun _=>none) w vs nT (by omega) (fun k eE =>
  ((e3 k (by omega)).low DK (ji hl k)).mono (yi _ _) (fun _ _ h=>h)) fr ni h4
 have jt:∀ g',g'<w.heap.size→w'.heap[g']? = w.heap[g']?:=fun g' tD=>g3.block g' tD fun o=>Ew
 have wG:Ext σ.length σ β w σ β w' :=
  ⟨g3.os,g3.tape,g3.output,g3.size,fun g' o x Gz _=>by rw [World.cell?_of_block (w:=w) (a:=⟨g',o,none⟩) (jt g' (xT Gz))];exact Gz,fun g' tD _=>jt g' tD,fun g' o hm=>.inl hm,fun _ _=>rfl⟩
 exact ⟨r',σ,β,v,w',hk,(h1.kept g3.size jt).1,S0 g2 C8,wG,ah _,g5⟩
end
end Go.c8
