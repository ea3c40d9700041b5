/- Part 37 of my own framework and of the walks of functions: AcsL. -/
import Derived.Test.YtfjbdamcmiglgaaGreatOwn36
set_option linter.unusedVariables false
set_option linter.unusedSectionVars false
set_option linter.unusedSimpArgs false
namespace Go.cV
open Go
def xQ (b:Nat) (cs:List ae):ae→ae
 | .ptr b' o=>if b'=b∧o=0 then .pp cs else .ptr b' o
 | a=>a
def tj (b:Nat) (cs:List ae):ae→ae
 | .fn g x y=>.fn g (x.map (xQ b cs)) (y.map (xQ b cs))
 | a=>xQ b cs a
section
variable {P:Program} {X:Nat→Nat→Prop} {base:Nat} {σ:ai} {β β':Env} {w w':World}
theorem Em {b c:Nat} {x:bE} (h:(σ.set b none)[c]? = some (some x)):c≠b∧σ[c]? = some (some x):=by
 rw [dT] at h
 by_cases e:b=c
 ·rw [if_pos e] at h;split at h<;>cases h
 ·rw [if_neg e] at h;exact ⟨fun e'=>e e'.symm,h⟩
theorem zY {b g o:Nat} (h:iQ (σ.set b none) β g o):iQ σ β g o:=by
 obtain ⟨c,x,L,m1,m2⟩:=h
 exact ⟨c,x,L,(Em m1).2,m2⟩
theorem LF {b:Nat} {cs:List ae} (hr:cF X base σ β w) (hb : σ[b]? = some (some (.var cs))) {v:Value} {a:ae} (h:bR w (MT X σ β) β v a):bR w (MT X (σ.set b none) β) β v (xQ b cs a):=by
 have hk:dg w (MT X σ β) w (MT X (σ.set b none) β):=dg.lM fun g o h=>h.imp id zY
 cases a with
 | ptr b' o =>
  simp only [xQ]
  split
  ·rename_i e
   obtain ⟨rfl,rfl⟩:=e
   cases h with
   | @ptr _ _ L hh =>
    obtain ⟨L',q1,q2,q3,c,e,q4,q5,q6,q7⟩:=hr.cf b' _ hb
    obtain rfl:=aM (q1.symm.trans hh)
    have hM:∀ o, ¬ MT X (σ.set b' none) β L'.g o:=by
     rintro o (hx | ⟨c2,y,L2,m1,m2,m3,m4⟩)
     ·exact q3 _ hx
     ·obtain ⟨n1,n2⟩:=Em m1
      exact n1 (hr.inj c2 b' y _ L2 L' n2 hb m2 q1 m3)
    refine .pp (fun k=>c.getD k undef) (fun k eA=>⟨?_,hM _⟩) fun k eA=>(q7 k eA).mono hk (fun _ _ h=>h)
    have:L'.o+0+k=k:=by omega
    rw [this,cell_of_row w L'.g _ c e (0,0) q4,tD (by omega)]
  ·exact h.mono hk (fun _ _ h=>h)
 | _=>exact h.mono hk (fun _ _ h=>h)
theorem Yqj {b:Nat} {cs:List ae} (hr:cF X base σ β w) (hb : σ[b]? = some (some (.var cs))) {v:Value} {a:ae} (h:bR w (MT X σ β) β v a):bR w (MT X (σ.set b none) β) β v (tj b cs a):=by
 have hd:∀ (l:List ae) (k:Nat),(l.map (xQ b cs)).getD k .undef=xQ b cs (l.getD k .undef):=fun l k=>by
  simp only [dm,cd]
  cases l[k]?<;>rfl
 cases a with
 | fn g x y =>
  simp only [tj]
  cases h with
  | fn e1 e2 r1 r2 =>
   refine .fn (by simpa using e1) (by simpa using e2) (fun k hk=>?_) (fun k hk=>?_)
   ·rw [hd];exact LF hr hb (r1 k (by simpa using hk))
   ·rw [hd];exact LF hr hb (r2 k (by simpa using hk))
 | _=>exact LF hr hb h
theorem aq.sS {g:FuncId} {first captured args args':List ae} {K:ae→ai→Prop} {r:ae} {b:Nat} {cs:List ae} (bs:List Nat) (hb:bF σ b=some (.var cs)) (hc:aJ P g args' r) (hp:kz (among bs) (σ.set b none) args' ((first++args++captured).map (tj b cs))) (hl:bx 0 args')
  (CY:bL r=true) (hk:K r σ):aq P (.fn g first captured) args σ K:=by
 refine aq.sh ?_
 intro X base β w vs h1 h2 h3 fr mV h4
 have mY:=jU hb
 have hd:∀ (l:List ae) (k:Nat),k<l.length→(l.map (tj b cs)).getD k .undef=tj b cs (l.getD k .undef):=fun l k hk=>by
  simp [dm,hk]
 have Mb:cF X base (σ.set b none) β w:=h1.less (fun c x hc=>(Em hc).2) bh
 have h3e:∀ k,k<(first++args++captured).length→bR w (MT X (σ.set b none) β) β (vs.getD k undef) (((first++args++captured).map (tj b cs)).getD k .undef):=fun k hk=>by
  rw [hd _ _ hk];exact Yqj h1 mY (h3 k hk)
 have nU:=zL (among bs) (σ.set b none)
 generalize yB:fA (among bs) 0 (σ.set b none) = kU at *
 have hf:=nU.oq
 have xp:=Mb.oq hf
 obtain ⟨e1,e2⟩:=tJ xp nU args' hp
 rw [ao] at e1
 have e3:∀ k,k<args'.length→bR w (MT X kU β) β (vs.getD k undef) (args'.getD k .undef):=fun k eA=>(e2 k eA).1 _ ((h3e k (by omega)).mono (A_ hf) (fun _ _ h=>h))
 have Dv:∀ b,b<0→(fun _=>none:Env) b = β b:=fun b hb=>by omega
 have Mr:∀ g' o,MT X kU β g' o→g'<w.heap.size:=by
  rintro g' o (hx | ⟨b,y,L,m1,m2,rfl,m4⟩)
  ·exact h1.p6 g' o hx
  ·exact Fu xp m1 m2
 have nI:cF (MT X kU β) base [] (fun _=>none) w:=⟨fun _ _=>rfl,fun b y hb=>by simp at hb,fun b b' y y' L L' hb=>by simp at hb,h1.size,Mr,h1.gl⟩
 have xX:∀ (β':Env) (w:World),dg w (MT X kU β) w (MT (MT X kU β) [] β'):=fun β' w=>dg.lM fun g' o h=>by rcases h with h | h;exact h;exact absurd h Ej
 obtain ⟨r',σ',β',v,w',⟨rfl,rfl⟩,g1,g2,g3,g4,g5⟩:=hc.1 (MT X kU β) base (fun _=>none) w vs nI (by omega) (fun k eA =>
  ((e3 k (by omega)).low Dv (iX hl k)).mono (xX _ _) (fun _ _ h=>h)) fr mV h4
 have jg:∀ g',g'<w.heap.size→w'.heap[g']? = w.heap[g']?:=fun g' tq=>g3.block g' tq fun o=>Ej
 have wq:Ext σ.length σ β w σ β w' :=
  ⟨g3.os,g3.tape,g3.output,g3.size,fun g' o x Gb _=>by rw [World.cell?_of_block (w:=w) (a:=⟨g',o,none⟩) (jg g' (xI Gb))];exact Gb,fun g' tq _=>jg g' tq,fun g' o hm=>.inl hm,fun _ _=>rfl⟩
 exact ⟨r',σ,β,v,w',hk,(h1.kept g3.size jg).1,RJ g2 CY,wq,ah _,g5⟩
end
end Go.cV
