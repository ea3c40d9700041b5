/- Part 37 of my own framework and of the walks of functions: AcsL. -/
import Derived.Test.YtfjbdamcmiglgaaGreatOwn36
set_option linter.unusedVariables false
set_option linter.unusedSectionVars false
set_option linter.unusedSimpArgs false
namespace Go.c8
open Go
def xK (b:Nat) (cs:List ae):ae→ae
 | .ptr b' o=>if b'=b∧o=0 then .pp cs else .ptr b' o
 | a=>a
def sV (b:Nat) (cs:List ae):ae→ae
 | .fn g x y=>.fn g (x.map (xK b cs)) (y.map (xK b cs))
 | a=>xK b cs a
section
variable {P:Program} {X:Nat→Nat→Prop} {base:Nat} {σ:ai} {β β':Env} {w w':World}
theorem D7 {b c:Nat} {x:bE} (h:(σ.set b none)[c]? = some (some x)):c≠b∧σ[c]? = some (some x):=by
 rw [dR] at h
 by_cases e:b=c
 ·rw [if_pos e] at h;split at h<;>cases h
 ·rw [if_neg e] at h;exact ⟨fun e'=>e e'.symm,h⟩
theorem zS {b g o:Nat} (h:iO (σ.set b none) β g o):iO σ β g o:=by
 obtain ⟨c,x,L,m1,m2⟩:=h
 exact ⟨c,x,L,(D7 m1).2,m2⟩
theorem Lh {b:Nat} {cs:List ae} (hr:cC X base σ β w) (hb : σ[b]? = some (some (.var cs))) {v:Value} {a:ae} (h:bR w (MT X σ β) β v a):bR w (MT X (σ.set b none) β) β v (xK b cs a):=by
 have hk:df w (MT X σ β) w (MT X (σ.set b none) β):=df.lP fun g o h=>h.imp id zS
 cases a with
 | ptr b' o =>
  simp only [xK]
  split
  ·rename_i e
   obtain ⟨rfl,rfl⟩:=e
   cases h with
   | @ptr _ _ L hh =>
    obtain ⟨L',q1,q2,q3,c,e,q4,q5,q6,q7⟩:=hr.cd b' _ hb
    obtain rfl:=aM (q1.symm.trans hh)
    have hM:∀ o, ¬ MT X (σ.set b' none) β L'.g o:=by
     rintro o (hx | ⟨c2,y,L2,m1,m2,m3,m4⟩)
     ·exact q3 _ hx
     ·obtain ⟨n1,n2⟩:=D7 m1
      exact n1 (hr.inj c2 b' y _ L2 L' n2 hb m2 q1 m3)
    refine .pp (fun k=>c.getD k undef) (fun k er=>⟨?_,hM _⟩) fun k er=>(q7 k er).mono hk (fun _ _ h=>h)
    have:L'.o+0+k=k:=by omega
    rw [this,cell_of_row w L'.g _ c e (0,0) q4,tf (by omega)]
  ·exact h.mono hk (fun _ _ h=>h)
 | _=>exact h.mono hk (fun _ _ h=>h)
theorem Ysd {b:Nat} {cs:List ae} (hr:cC X base σ β w) (hb : σ[b]? = some (some (.var cs))) {v:Value} {a:ae} (h:bR w (MT X σ β) β v a):bR w (MT X (σ.set b none) β) β v (sV b cs a):=by
 have hd:∀ (l:List ae) (k:Nat),(l.map (xK b cs)).getD k .undef=xK b cs (l.getD k .undef):=fun l k=>by
  simp only [dj,cb]
  cases l[k]?<;>rfl
 cases a with
 | fn g x y =>
  simp only [sV]
  cases h with
  | fn e1 e2 r1 r2 =>
   refine .fn (by simpa using e1) (by simpa using e2) (fun k hk=>?_) (fun k hk=>?_)
   ·rw [hd];exact Lh hr hb (r1 k (by simpa using hk))
   ·rw [hd];exact Lh hr hb (r2 k (by simpa using hk))
 | _=>exact Lh hr hb h
theorem aq.sH {g:FuncId} {first captured args args':List ae} {K:ae→ai→Prop} {r:ae} {b:Nat} {cs:List ae} (bs:List Nat) (hb:bG σ b=some (.var cs)) (hc:aJ P g args' r) (hp:kB (among bs) (σ.set b none) args' ((first++args++captured).map (sV b cs))) (hl:bx 0 args')
  (CN:bO r=true) (hk:K r σ):aq P (.fn g first captured) args σ K:=by
 refine aq.sh ?_
 intro X base β w vs h1 h2 h3 fr mW h4
 have m0:=jU hb
 have hd:∀ (l:List ae) (k:Nat),k<l.length→(l.map (sV b cs)).getD k .undef=sV b cs (l.getD k .undef):=fun l k hk=>by
  simp [dj,hk]
 have LW:cC X base (σ.set b none) β w:=h1.less (fun c x hc=>(D7 hc).2) bg
 have h3e:∀ k,k<(first++args++captured).length→bR w (MT X (σ.set b none) β) β (vs.getD k undef) (((first++args++captured).map (sV b cs)).getD k .undef):=fun k hk=>by
  rw [hd _ _ hk];exact Ysd h1 m0 (h3 k hk)
 have nS:=zJ (among bs) (σ.set b none)
 generalize yw:fM (among bs) 0 (σ.set b none) = kW at *
 have hf:=nS.oi
 have xj:=LW.oi hf
 obtain ⟨e1,e2⟩:=tv xj nS args' hp
 rw [ak] at e1
 have e3:∀ k,k<args'.length→bR w (MT X kW β) β (vs.getD k undef) (args'.getD k .undef):=fun k er=>(e2 k er).1 _ ((h3e k (by omega)).mono (A7 hf) (fun _ _ h=>h))
 have Dj:∀ b,b<0→(fun _=>none:Env) b = β b:=fun b hb=>by omega
 have Mc:∀ g' o,MT X kW β g' o→g'<w.heap.size:=by
  rintro g' o (hx | ⟨b,y,L,m1,m2,rfl,m4⟩)
  ·exact h1.pW g' o hx
  ·exact Ft xj m1 m2
 have nH:cC (MT X kW β) base [] (fun _=>none) w:=⟨fun _ _=>rfl,fun b y hb=>by simp at hb,fun b b' y y' L L' hb=>by simp at hb,h1.size,Mc,h1.gl⟩
 have xR:∀ (β':Env) (w:World),df w (MT X kW β) w (MT (MT X kW β) [] β'):=fun β' w=>df.lP fun g' o h=>by rcases h with h | h;exact h;exact absurd h D9
 obtain ⟨r',σ',β',v,w',⟨rfl,rfl⟩,g1,g2,g3,g4,g5⟩:=hc.1 (MT X kW β) base (fun _=>none) w vs nH (by omega) (fun k er =>
  ((e3 k (by omega)).low Dj (iW hl k)).mono (xR _ _) (fun _ _ h=>h)) fr mW h4
 have je:∀ g',g'<w.heap.size→w'.heap[g']? = w.heap[g']?:=fun g' sX=>g3.block g' sX fun o=>D9
 have wc:Ext σ.length σ β w σ β w' :=
  ⟨g3.os,g3.tape,g3.output,g3.size,fun g' o x F6 _=>by rw [World.cell?_of_block (w:=w) (a:=⟨g',o,none⟩) (je g' (xC F6))];exact F6,fun g' sX _=>je g' sX,fun g' o hm=>.inl hm,fun _ _=>rfl⟩
 exact ⟨r',σ,β,v,w',hk,(h1.kept g3.size je).1,Rr g2 CN,wc,ah _,g5⟩
end
end Go.c8
