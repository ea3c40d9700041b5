/- Part 5 of my own framework and of the walks of functions: AbsH. -/
import Derived.Test.YtfjbdamcmiglgaaGreatOwn4
import Derived.Laws.AppendOwn
import Derived.Laws.MakeOwn
abbrev cJ:=@List.append_assoc
abbrev cm:=@List.getElem?_append_left
abbrev bI:=@List.getElem?_append_right
abbrev c8:=@List.getElem?_replicate
abbrev bK:=@List.getElem?_set_ne
abbrev ay:=@List.length_append
abbrev au:=@List.length_cons
abbrev aR:=@List.length_nil
abbrev bz:=@List.length_replicate
abbrev fY:=@Ne.symm
set_option linter.unusedVariables false
set_option linter.unusedSectionVars false
set_option linter.unusedSimpArgs false
namespace Go.cV
open Go
def o7 (β:Env) (nm:Nat) (L:Loc):Env:=fun b=>if b=nm then some L else β b
section
variable {P:Program} {X:Nat→Nat→Prop} {base:Nat} {σ:ai} {β:Env} {w:World} {nm:Nat} {M:Nat→Nat→Prop}
theorem tI (β:Env) (nm:Nat) (L:Loc):o7 β nm L nm=some L:=by simp [o7]
theorem Cg (β:Env) (nm:Nat) (L:Loc) {b:Nat} (h:b≠nm):o7 β nm L b = β b:=by simp [o7,h]
theorem DY (σ:ai) (nm:Nat) (cf:bE):(b_ σ nm cf)[nm]? = some (some cf):=by
 unfold b_
 split
 ·rename_i h;simp [h]
 ·rename_i h
  rw [bI (by simp;omega)]
  simp only [ay,bz]
  rw [show nm - (σ.length+(nm - σ.length))=0 by omega];rfl
theorem zJ (σ:ai) (nm:Nat) (cf:bE) {c:Nat} (h:c≠nm) {x:bE} (hx:(b_ σ nm cf)[c]? = some (some x)) : σ[c]? = some (some x):=by
 unfold b_ at hx
 split at hx
 ·rwa [bK (fY h)] at hx
 ·rename_i hl
  by_cases h1:c < σ.length
  ·rwa [cJ,cm h1] at hx
  ·exfalso
   rw [cJ,bI (by omega)] at hx
   by_cases h2:c - σ.length<nm - σ.length
   ·rw [cm (by simp;omega)] at hx
    simp [c8] at hx
   ·rw [bI (by simp;omega)] at hx
    simp only [bz] at hx
    cases hc:c - σ.length - (nm - σ.length) with
    | zero=>omega
    | succ k=>rw [hc] at hx;simp at hx
theorem A6 (σ:ai) (nm:Nat) (cf:bE) : σ.length≤(b_ σ nm cf).length:=by
 unfold b_;split<;>simp<;>omega
theorem Fu (hr:cF X base σ β w) {c:Nat} {x:bE} (h : σ[c]? = some (some x)) {L:Loc} (hL : β c=some L):L.g<w.heap.size:=by
 obtain ⟨L',h1,_,_,h2⟩:=hr.cf c x h
 obtain rfl:=aM (hL.symm.trans h1)
 exact h2.lt
theorem Pc (hr:cF X base σ β w) (hn : β nm=none) {w':World} (cf:bE) (n sz:Nat) {obj:Obj} (hw:w'.heap=w.heap.push obj)
  (yq:w'.os=w.os) (q_:w'.tape=w.tape) (mH:w'.output=w.output) :
  Ext 0 σ β w (b_ σ nm cf) (o7 β nm ⟨w.heap.size,0,n,sz⟩) w'∧dg w (MT X σ β) w' (MT X (b_ σ nm cf) (o7 β nm ⟨w.heap.size,0,n,sz⟩)) ∧
   (∀ b L,β b=some L→o7 β nm ⟨w.heap.size,0,n,sz⟩ b=some L) ∧
   (fR w' (MT X (b_ σ nm cf) (o7 β nm ⟨w.heap.size,0,n,sz⟩)) (o7 β nm ⟨w.heap.size,0,n,sz⟩) ⟨w.heap.size,0,n,sz⟩ cf→cF X base (b_ σ nm cf) (o7 β nm ⟨w.heap.size,0,n,sz⟩) w'):=by
 have hold:∀ g,g<w.heap.size→w'.heap[g]? = w.heap[g]?:=fun g hg=>by rw [hw,fv,if_neg (by omega)]
 refine Ec hr nm ⟨w.heap.size,0,n,sz⟩ cf (DY _ _ _) (fun c x hc hx=>⟨zJ _ _ _ hc hx,fun Lc hL=>?_⟩) (A6 _ _ _) (tI _ _ _) (fun c hc=>Cg _ _ _ hc) (.inl hn)
  yq q_ mH (by rw [hw];simp) (fun g hg _=>hold g hg) (fun off v hc _=>absurd (xI hc) (by simp)) (fun h=>absurd h (by simp)) (fun off _=>.inr (ah _)) (fun o hx=>absurd (hr.p6 _ _ hx) (by simp)) hr.size
 have:=Fu hr (zJ _ _ _ hc hx) hL
 simp only;omega
theorem zb (hr:cF X base σ β w) (hn : β nm=none) {w':World} (cf:bE) (n sz:Nat) {obj:Obj} (hw:w'.heap=w.heap.push obj)
  (yq:w'.os=w.os) (q_:w'.tape=w.tape) (mH:w'.output=w.output) {s:Sem Next} {v:Value} {r:ae} (eO:s.run P w = .ok (.value v) w')
  (j8:∀ M' β',dg w (MT X σ β) w' M'→(∀ b L,β b=some L→β' b=some L)→fR w' M' β' ⟨w.heap.size,0,n,sz⟩ cf)
  (hv:∀ M',bR w' M' (o7 β nm ⟨w.heap.size,0,n,sz⟩) v r):cO P X base σ β w nm s r (b_ σ nm cf):=by
 obtain ⟨h1,h2,h3,h4⟩:=Pc hr hn cf n sz hw yq q_ mH
 exact ⟨v,w',_, .inl eO,h4 (j8 _ _ h2 h3),hv _,h1,fun b hb=>Cg _ _ _ hb,h3⟩
theorem xG (w:World) (o:Obj):({ w with heap:=w.heap.push o }:World).heap[w.heap.size]? = some o:=by simp
theorem Yc (hr:cF X base σ β w) (hn : β nm=none) {ρ:Operand→Value} {o:Oper} {t:TypeId} (ho:o.op = .alloc t) {l:eI} (hl:aC P t=some l) :
  cO P X base σ β w nm (execOp ρ o) (.ptr nm 0) (b_ σ nm (.var l.zero)):=by
 obtain ⟨z,h1,_,h2,h3,h4,_⟩:=Be (w:=w) (M:=MT X σ β) (β:=β) hl
 refine zb hr hn (.var l.zero) l.zero.length 1 (obj:=.cells z.cells t) (w':={ w with heap:=w.heap.push (.cells z.cells t) }) rfl rfl rfl rfl (v:=.pointer (some ⟨w.heap.size,0,none⟩)) ?_ ?_ ?_
 ·simp [execOp,ho,Instr.alloc,h1,newVar,newRow]
 ·intro M' β' hk hβ
  exact ⟨z.cells,t,xG w _,rfl,by omega,fun k eA=>(h4 k (by omega)).mono hk hβ⟩
 ·intro M'
  exact .ptr (L:=⟨w.heap.size,0,l.zero.length,1⟩) (off:=0) (tI _ _ _)
theorem Yoi (hr:cF X base σ β w) (hn : β nm=none) {ρ:Operand→Value} {gU:Operand→ae} (dL:∀ x,bR w (MT X σ β) β (ρ x) (gU x)) {o:Oper} {t:TypeId} {x:Operand} (ho:o.op = .box t x)
  (hc:(gU x).cells.all ae.cI=true):cO P X base σ β w nm (execOp ρ o) (.ptr nm 0) (b_ σ nm (.var (gU x).cells)):=by
 obtain ⟨h1,h2,_⟩:=E6 (dL x) hc
 refine zb hr hn (.var (gU x).cells) (gU x).cells.length 1 (obj:=.cells (ρ x).cells t) (w':={ w with heap:=w.heap.push (.cells (ρ x).cells t) }) rfl rfl rfl rfl (v:=.pointer (some ⟨w.heap.size,0,none⟩)) ?_ ?_ ?_
 ·simp [execOp,ho,Instr.box,newVar,newRow]
 ·intro M' β' hk hβ
  exact ⟨(ρ x).cells,t,xG w _,rfl,h1,fun k eA=>(h2 k eA).mono hk hβ⟩
 ·intro M'
  exact .ptr (L:=⟨w.heap.size,0,(gU x).cells.length,1⟩) (off:=0) (tI _ _ _)
theorem Qd (off:Nat):∀ (vs:List Value) (s:Nat) (c:Array Value),off+s+vs.length≤c.size →
  ((vs.zipIdx s).foldl (fun cs p=>cs.setIfInBounds (off+p.2) p.1) c).size=c.size ∧
  ∀ p,((vs.zipIdx s).foldl (fun cs p=>cs.setIfInBounds (off+p.2) p.1) c).getD p undef=if off+s≤p∧p<off+s+vs.length then vs.getD (p - (off+s)) undef else c.getD p undef
 | [],s,c,h=>⟨rfl,fun p=>by simp only [aR,cj];rw [if_neg (by omega)];rfl⟩
 | v :: vs,s,c,h=>by
  simp only [au] at h
  obtain ⟨h1,h2⟩:=Qd off vs (s+1) (c.setIfInBounds (off+s) v) (by simp;omega)
  simp only [List.zipIdx_cons,List.foldl_cons]
  refine ⟨by rw [h1];simp,fun p=>?_⟩
  rw [h2 p]
  simp only [au]
  by_cases e:p=off+s
  ·subst e
   rw [if_neg (by omega),if_pos (by omega)]
   rw [aj,bC,if_pos rfl,if_pos (by omega)]
   simp
  ·by_cases e2:off+(s+1)≤p∧p<off+(s+1)+vs.length
   ·rw [if_pos e2,if_pos (by omega)]
    rw [show p - (off+s)=p - (off+(s+1))+1 by omega,bB]
   ·rw [if_neg e2,if_neg (by omega)]
    rw [aj,bC,if_neg (by omega),← aj]
theorem QE {ρ:Operand→Value} {gU:Operand→ae} (dL:∀ x,bR w M β (ρ x) (gU x)) {e:eI}:∀ (parts:List (Nat×Operand)) (k:Nat) (c:Array Value) (es:List ae),
  pQ e gU k parts=some es→(k+es.length)*e.sz≤c.size →
  ∃ c',Instr.fill (fun i=>some (i*e.sz,e.sz)) c (parts.map fun (i,x)=>(i,ρ x))=some c'∧c'.size=c.size∧(∀ i,i<es.length→(es.getD i .undef).cells.length=e.sz) ∧
   (∀ i j,i<es.length→j<e.sz→bR w M β (c'.getD ((k+i)*e.sz+j) undef) ((es.getD i .undef).cells.getD j .undef))∧∀ p,p<k*e.sz→c'.getD p undef=c.getD p undef
 | [],k,c,es,h,_=>by
  simp only [pQ,aE] at h;subst h
  exact ⟨c,rfl,rfl,fun i hi=>by simp at hi,fun i j hi=>by simp at hi,fun _ _=>rfl⟩
 | (i,x) :: rest,k,c,es,h,hs=>by
  simp only [pQ] at h
  split at h
  ·rename_i hc
   obtain ⟨rfl,rD,kY,Aq⟩:=hc
   obtain ⟨pX,h1,rfl⟩:=aG.1 h
   simp only [au] at hs
   obtain ⟨EF,wg,_,_⟩:=E6 (dL x) Aq
   have e1:(i+(pX.length+1))*e.sz=i*e.sz+e.sz+pX.length*e.sz:=by rw [bH,bH,dv];omega
   obtain ⟨g1,g2⟩:=Qd (i*e.sz) (ρ x).cells.toList 0 c (by simp only [cj,bA];omega)
   obtain ⟨c',h2,h3,h4,h5,h6⟩:=QE dL rest (i+1) _ pX h1 (by rw [g1];rw [show i+1+pX.length=i+(pX.length+1) by omega];exact hs)
   refine ⟨c',?_,h3.trans g1,?_,?_,?_⟩
   ·simp only [aI,Instr.fill]
    have mA:¬ ((decide ((ρ x).cells.size≠e.sz)||decide (i*e.sz+(ρ x).cells.size > c.size))=true):=by simp only [b9,decide_eq_true_eq];omega
    rw [if_neg mA,← h2,← Array.foldl_toList,Array.toList_zipIdx]
   ·intro j hj
    cases j with
    | zero=>exact rD
    | succ j=>simp only [au] at hj;simpa using h4 j (by omega)
   ·intro j q hj hq
    cases j with
    | zero =>
     have e2:(i+1)*e.sz=i*e.sz+e.sz:=by rw [bH,dv]
     rw [cj,h6 _ (by omega),g2,if_pos (by simp only [cj,bA];omega)]
     have:=wg q (by omega)
     simp only [cj,bg]
     rwa [show i*e.sz+q - i*e.sz=q by omega,show (ρ x).cells.toList.getD q undef=(ρ x).cells.getD q undef by simp [List.getD,aj]]
    | succ j =>
     simp only [au] at hj
     have:=h5 j q (by omega) hq
     rw [show i+1+j=i+(j+1) by omega] at this
     simpa using this
   ·intro p hp
    have e2:(i+1)*e.sz=i*e.sz+e.sz:=by rw [bH,dv]
    rw [h6 p (by omega),g2,if_neg (by omega)]
  ·cases h
theorem Zmc (hr:cF X base σ β w) (hn : β nm=none) {ρ:Operand→Value} {gU:Operand→ae} (dL:∀ x,bR w (MT X σ β) β (ρ x) (gU x)) {o:Oper} {t:TypeId} {n:Nat} {parts:Array (Nat×Operand)}
  (ho:o.op = .buildSlice t n parts) {T:jH} (hT:bJ P t=some T) {e:eI} (he:T.elem=some e) {es:List ae} (oB:pQ e gU 0 parts.toList=some es) (hlen:es.length=n) (hk:T.kind = .slice)
  (uh:n*e.sz≤16777216) (ft : 0<e.sz):cO P X base σ β w nm (execOp ρ o) (.os nm 0 n e.sz) (b_ σ nm (.row es 0)):=by
 obtain ⟨et,ht,iS⟩:=tE hT hk
 rw [he] at iS
 obtain ⟨ti,_,_,qs,_,_,hs,_⟩:=pW iS.symm
 obtain ⟨z,rH,_,rI,_⟩:=Be (w:=w) (M:=MT X σ β) (β:=β) iS.symm
 obtain ⟨zc,GY⟩:∃ zc:Array Value,zc=if n*e.sz=0 then #[] else z.cells:=⟨_,rfl⟩
 obtain ⟨c',h2,h3,h4,h5,_⟩:=QE dL parts.toList 0 ((Array.range (n*e.sz)).map (zc[· % zc.size]!)) es oB (by simp [hlen])
 refine zb hr hn (.row es 0) n e.sz (obj:=.cells c' et) (w':={ w with heap:=w.heap.push (.cells c' et) }) rfl rfl rfl rfl (v:=.slice (some ⟨w.heap.size,0,none⟩) n n) ?_ ?_ ?_
 ·have F5:¬ n*ti.size > 2 ^ 24:=by rw [hs];omega
  rw [← hs] at GY h2
  simp only [execOp,ho,Instr.buildSlice,Sem.run_bind,run_underlying ht,Result.andThen_ok,tF qs]
  rw [if_neg F5,Sem.run_ite]
  by_cases h0:n*ti.size=0
  ·rw [if_pos h0] at GY ⊢
   subst GY
   simp only [Sem.run_bind,Sem.run_pure,Result.andThen_ok,oE]
   rw [h2]
   simp [newRow]
  ·rw [if_neg h0] at GY ⊢
   subst GY
   simp only [Sem.run_bind,Sem.run_pure,Result.andThen_ok,oE,rH]
   rw [h2]
   simp [newRow]
 ·intro M' β' Ey hβ
  refine ⟨c',et,xG w _,?_,(by show es.length≤n;omega),h4,fun i j hi hj=>?_⟩
  ·simp only [bm];rw [h3];simp
  ·have:=h5 i j hi hj
   simp only [bm] at this ⊢
   exact this.mono Ey hβ
 ·intro M'
  have:=bR.os (w:={ w with heap:=w.heap.push (.cells c' et) }) (M:=M') (β:=o7 β nm ⟨w.heap.size,0,n,e.sz⟩) (b:=nm) (off:=0) (len:=n) (cap:=n) (L:=⟨w.heap.size,0,n,e.sz⟩) (tI _ _ _) (ah _) (by simp)
  simpa using this
end
end Go.cV
