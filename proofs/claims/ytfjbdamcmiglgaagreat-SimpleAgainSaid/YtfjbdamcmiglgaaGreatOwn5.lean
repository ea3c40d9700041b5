/- Part 5 of my own framework and of the walks of functions: AbsH. -/
import Derived.Test.YtfjbdamcmiglgaaGreatOwn4
import Derived.Laws.AppendOwn
import Derived.Laws.MakeOwn
abbrev cx:=@List.append_assoc
abbrev cn:=@List.getElem?_append_left
abbrev bK:=@List.getElem?_append_right
abbrev db:=@List.getElem?_replicate
abbrev bM:=@List.getElem?_set_ne
abbrev ay:=@List.length_append
abbrev ax:=@List.length_cons
abbrev aS:=@List.length_nil
abbrev bA:=@List.length_replicate
abbrev gA:=@Ne.symm
set_option linter.unusedVariables false
set_option linter.unusedSectionVars false
set_option linter.unusedSimpArgs false
namespace Go.c8
open Go
def pw (β:Env) (nm:Nat) (L:Loc):Env:=fun b=>if b=nm then some L else β b
section
variable {P:Program} {X:Nat→Nat→Prop} {base:Nat} {σ:ai} {β:Env} {w:World} {nm:Nat} {M:Nat→Nat→Prop}
theorem tW (β:Env) (nm:Nat) (L:Loc):pw β nm L nm=some L:=by simp [pw]
theorem Cn (β:Env) (nm:Nat) (L:Loc) {b:Nat} (h:b≠nm):pw β nm L b = β b:=by simp [pw,h]
theorem D_ (σ:ai) (nm:Nat) (cg:bE):(b_ σ nm cg)[nm]? = some (some cg):=by
 unfold b_
 split
 ·rename_i h;simp [h]
 ·rename_i h
  rw [bK (by simp;omega)]
  simp only [ay,bA]
  rw [show nm - (σ.length+(nm - σ.length))=0 by omega];rfl
theorem zV (σ:ai) (nm:Nat) (cg:bE) {c:Nat} (h:c≠nm) {x:bE} (hx:(b_ σ nm cg)[c]? = some (some x)) : σ[c]? = some (some x):=by
 unfold b_ at hx
 split at hx
 ·rwa [bM (gA h)] at hx
 ·rename_i hl
  by_cases h1:c < σ.length
  ·rwa [cx,cn h1] at hx
  ·exfalso
   rw [cx,bK (by omega)] at hx
   by_cases h2:c - σ.length<nm - σ.length
   ·rw [cn (by simp;omega)] at hx
    simp [db] at hx
   ·rw [bK (by simp;omega)] at hx
    simp only [bA] at hx
    cases hc:c - σ.length - (nm - σ.length) with
    | zero=>omega
    | succ k=>rw [hc] at hx;simp at hx
theorem Bh (σ:ai) (nm:Nat) (cg:bE) : σ.length≤(b_ σ nm cg).length:=by
 unfold b_;split<;>simp<;>omega
theorem FZ (hr:cH X base σ β w) {c:Nat} {x:bE} (h : σ[c]? = some (some x)) {L:Loc} (hL : β c=some L):L.g<w.heap.size:=by
 obtain ⟨L',h1,_,_,h2⟩:=hr.cg c x h
 obtain rfl:=aN (hL.symm.trans h1)
 exact h2.lt
theorem O4 (hr:cH X base σ β w) (hn : β nm=none) {w':World} (cg:bE) (n sz:Nat) {obj:Obj} (hw:w'.heap=w.heap.push obj)
  (yC:w'.os=w.os) (rm:w'.tape=w.tape) (mU:w'.output=w.output) :
  Ext 0 σ β w (b_ σ nm cg) (pw β nm ⟨w.heap.size,0,n,sz⟩) w'∧di w (MT X σ β) w' (MT X (b_ σ nm cg) (pw β nm ⟨w.heap.size,0,n,sz⟩)) ∧
   (∀ b L,β b=some L→pw β nm ⟨w.heap.size,0,n,sz⟩ b=some L) ∧
   (gp w' (MT X (b_ σ nm cg) (pw β nm ⟨w.heap.size,0,n,sz⟩)) (pw β nm ⟨w.heap.size,0,n,sz⟩) ⟨w.heap.size,0,n,sz⟩ cg→cH X base (b_ σ nm cg) (pw β nm ⟨w.heap.size,0,n,sz⟩) w'):=by
 have hold:∀ g,g<w.heap.size→w'.heap[g]? = w.heap[g]?:=fun g hg=>by rw [hw,fL,if_neg (by omega)]
 refine Em hr nm ⟨w.heap.size,0,n,sz⟩ cg (D_ _ _ _) (fun c x hc hx=>⟨zV _ _ _ hc hx,fun Lc hL=>?_⟩) (Bh _ _ _) (tW _ _ _) (fun c hc=>Cn _ _ _ hc) (.inl hn)
  yC rm mU (by rw [hw];simp) (fun g hg _=>hold g hg) (fun off v hc _=>absurd (xT hc) (by simp)) (fun h=>absurd h (by simp)) (fun off _=>.inr (ah _)) (fun o hx=>absurd (hr.qd _ _ hx) (by simp)) hr.size
 have:=FZ hr (zV _ _ _ hc hx) hL
 simp only;omega
theorem zo (hr:cH X base σ β w) (hn : β nm=none) {w':World} (cg:bE) (n sz:Nat) {obj:Obj} (hw:w'.heap=w.heap.push obj)
  (yC:w'.os=w.os) (rm:w'.tape=w.tape) (mU:w'.output=w.output) {s:Sem Next} {v:Value} {r:ae} (eS:s.run P w = .ok (.value v) w')
  (ju:∀ M' β',di w (MT X σ β) w' M'→(∀ b L,β b=some L→β' b=some L)→gp w' M' β' ⟨w.heap.size,0,n,sz⟩ cg)
  (hv:∀ M',bS w' M' (pw β nm ⟨w.heap.size,0,n,sz⟩) v r):cR P X base σ β w nm s r (b_ σ nm cg):=by
 obtain ⟨h1,h2,h3,h4⟩:=O4 hr hn cg n sz hw yC rm mU
 exact ⟨v,w',_, .inl eS,h4 (ju _ _ h2 h3),hv _,h1,fun b hb=>Cn _ _ _ hb,h3⟩
theorem xQ (w:World) (o:Obj):({ w with heap:=w.heap.push o }:World).heap[w.heap.size]? = some o:=by simp
theorem Zz (hr:cH X base σ β w) (hn : β nm=none) {ρ:Operand→Value} {o:Oper} {t:TypeId} (ho:o.op = .alloc t) {l:eM} (hl:aF P t=some l) :
  cR P X base σ β w nm (execOp ρ o) (.ptr nm 0) (b_ σ nm (.var l.zero)):=by
 obtain ⟨z,h1,_,h2,h3,h4,_⟩:=Bq (w:=w) (M:=MT X σ β) (β:=β) hl
 refine zo hr hn (.var l.zero) l.zero.length 1 (obj:=.cells z.cells t) (w':={ w with heap:=w.heap.push (.cells z.cells t) }) rfl rfl rfl rfl (v:=.pointer (some ⟨w.heap.size,0,none⟩)) ?_ ?_ ?_
 ·simp [execOp,ho,Instr.alloc,h1,newVar,newRow]
 ·intro M' β' hk hβ
  exact ⟨z.cells,t,xQ w _,rfl,by omega,fun k eE=>(h4 k (by omega)).mono hk hβ⟩
 ·intro M'
  exact .ptr (L:=⟨w.heap.size,0,l.zero.length,1⟩) (off:=0) (tW _ _ _)
theorem Yqn (hr:cH X base σ β w) (hn : β nm=none) {ρ:Operand→Value} {ia:Operand→ae} (dO:∀ x,bS w (MT X σ β) β (ρ x) (ia x)) {o:Oper} {t:TypeId} {x:Operand} (ho:o.op = .box t x)
  (hc:(ia x).cells.all ae.cK=true):cR P X base σ β w nm (execOp ρ o) (.ptr nm 0) (b_ σ nm (.var (ia x).cells)):=by
 obtain ⟨h1,h2,_⟩:=Ft (dO x) hc
 refine zo hr hn (.var (ia x).cells) (ia x).cells.length 1 (obj:=.cells (ρ x).cells t) (w':={ w with heap:=w.heap.push (.cells (ρ x).cells t) }) rfl rfl rfl rfl (v:=.pointer (some ⟨w.heap.size,0,none⟩)) ?_ ?_ ?_
 ·simp [execOp,ho,Instr.box,newVar,newRow]
 ·intro M' β' hk hβ
  exact ⟨(ρ x).cells,t,xQ w _,rfl,h1,fun k eE=>(h2 k eE).mono hk hβ⟩
 ·intro M'
  exact .ptr (L:=⟨w.heap.size,0,(ia x).cells.length,1⟩) (off:=0) (tW _ _ _)
theorem Rg (off:Nat):∀ (vs:List Value) (s:Nat) (c:Array Value),off+s+vs.length≤c.size →
  ((vs.zipIdx s).foldl (fun cs p=>cs.setIfInBounds (off+p.2) p.1) c).size=c.size ∧
  ∀ p,((vs.zipIdx s).foldl (fun cs p=>cs.setIfInBounds (off+p.2) p.1) c).getD p undef=if off+s≤p∧p<off+s+vs.length then vs.getD (p - (off+s)) undef else c.getD p undef
 | [],s,c,h=>⟨rfl,fun p=>by simp only [aS,ck];rw [if_neg (by omega)];rfl⟩
 | v :: vs,s,c,h=>by
  simp only [ax] at h
  obtain ⟨h1,h2⟩:=Rg off vs (s+1) (c.setIfInBounds (off+s) v) (by simp;omega)
  simp only [List.zipIdx_cons,List.foldl_cons]
  refine ⟨by rw [h1];simp,fun p=>?_⟩
  rw [h2 p]
  simp only [ax]
  by_cases e:p=off+s
  ·subst e
   rw [if_neg (by omega),if_pos (by omega)]
   rw [aj,bD,if_pos rfl,if_pos (by omega)]
   simp
  ·by_cases e2:off+(s+1)≤p∧p<off+(s+1)+vs.length
   ·rw [if_pos e2,if_pos (by omega)]
    rw [show p - (off+s)=p - (off+(s+1))+1 by omega,bC]
   ·rw [if_neg e2,if_neg (by omega)]
    rw [aj,bD,if_neg (by omega),← aj]
theorem RN {ρ:Operand→Value} {ia:Operand→ae} (dO:∀ x,bS w M β (ρ x) (ia x)) {e:eM}:∀ (parts:List (Nat×Operand)) (k:Nat) (c:Array Value) (es:List ae),
  pY e ia k parts=some es→(k+es.length)*e.sz≤c.size →
  ∃ c',Instr.fill (fun i=>some (i*e.sz,e.sz)) c (parts.map fun (i,x)=>(i,ρ x))=some c'∧c'.size=c.size∧(∀ i,i<es.length→(es.getD i .undef).cells.length=e.sz) ∧
   (∀ i j,i<es.length→j<e.sz→bS w M β (c'.getD ((k+i)*e.sz+j) undef) ((es.getD i .undef).cells.getD j .undef))∧∀ p,p<k*e.sz→c'.getD p undef=c.getD p undef
 | [],k,c,es,h,_=>by
  simp only [pY,aG] at h;subst h
  exact ⟨c,rfl,rfl,fun i hi=>by simp at hi,fun i j hi=>by simp at hi,fun _ _=>rfl⟩
 | (i,x) :: rest,k,c,es,h,hs=>by
  simp only [pY] at h
  split at h
  ·rename_i hc
   obtain ⟨rfl,rM,lq,AH⟩:=hc
   obtain ⟨rY,h1,rfl⟩:=aH.1 h
   simp only [ax] at hs
   obtain ⟨EV,wA,_,_⟩:=Ft (dO x) AH
   have e1:(i+(rY.length+1))*e.sz=i*e.sz+e.sz+rY.length*e.sz:=by rw [bI,bI,dx];omega
   obtain ⟨g1,g2⟩:=Rg (i*e.sz) (ρ x).cells.toList 0 c (by simp only [ck,bB];omega)
   obtain ⟨c',h2,h3,h4,h5,h6⟩:=RN dO rest (i+1) _ rY h1 (by rw [g1];rw [show i+1+rY.length=i+(rY.length+1) by omega];exact hs)
   refine ⟨c',?_,h3.trans g1,?_,?_,?_⟩
   ·simp only [aB,Instr.fill]
    have mL:¬ ((decide ((ρ x).cells.size≠e.sz)||decide (i*e.sz+(ρ x).cells.size > c.size))=true):=by simp only [b9,decide_eq_true_eq];omega
    rw [if_neg mL,← h2,← Array.foldl_toList,Array.toList_zipIdx]
   ·intro j hj
    cases j with
    | zero=>exact rM
    | succ j=>simp only [ax] at hj;simpa using h4 j (by omega)
   ·intro j q hj hq
    cases j with
    | zero =>
     have e2:(i+1)*e.sz=i*e.sz+e.sz:=by rw [bI,dx]
     rw [ck,h6 _ (by omega),g2,if_pos (by simp only [ck,bB];omega)]
     have:=wA q (by omega)
     simp only [ck,bm]
     rwa [show i*e.sz+q - i*e.sz=q by omega,show (ρ x).cells.toList.getD q undef=(ρ x).cells.getD q undef by simp [List.getD,aj]]
    | succ j =>
     simp only [ax] at hj
     have:=h5 j q (by omega) hq
     rw [show i+1+j=i+(j+1) by omega] at this
     simpa using this
   ·intro p hp
    have e2:(i+1)*e.sz=i*e.sz+e.sz:=by rw [bI,dx]
    rw [h6 p (by omega),g2,if_neg (by omega)]
  ·cases h
theorem Zmv (hr:cH X base σ β w) (hn : β nm=none) {ρ:Operand→Value} {ia:Operand→ae} (dO:∀ x,bS w (MT X σ β) β (ρ x) (ia x)) {o:Oper} {t:TypeId} {n:Nat} {parts:Array (Nat×Operand)}
  (ho:o.op = .buildSlice t n parts) {T:jV} (hT:bL P t=some T) {e:eM} (he:T.elem=some e) {es:List ae} (oO:pY e ia 0 parts.toList=some es) (hlen:es.length=n) (hk:T.kind = .slice)
  (ux:n*e.sz≤16777216) (fH : 0<e.sz):cR P X base σ β w nm (execOp ρ o) (.os nm 0 n e.sz) (b_ σ nm (.row es 0)):=by
 obtain ⟨et,ht,je⟩:=tO hT hk
 rw [he] at je
 obtain ⟨ti,_,_,qB,_,_,hs,_⟩:=p6 je.symm
 obtain ⟨z,rS,_,rT,_⟩:=Bq (w:=w) (M:=MT X σ β) (β:=β) je.symm
 obtain ⟨zc,Hj⟩:∃ zc:Array Value,zc=if n*e.sz=0 then #[] else z.cells:=⟨_,rfl⟩
 obtain ⟨c',h2,h3,h4,h5,_⟩:=RN dO parts.toList 0 ((Array.range (n*e.sz)).map (zc[· % zc.size]!)) es oO (by simp [hlen])
 refine zo hr hn (.row es 0) n e.sz (obj:=.cells c' et) (w':={ w with heap:=w.heap.push (.cells c' et) }) rfl rfl rfl rfl (v:=.slice (some ⟨w.heap.size,0,none⟩) n n) ?_ ?_ ?_
 ·have Gt:¬ n*ti.size > 2 ^ 24:=by rw [hs];omega
  rw [← hs] at Hj h2
  simp only [execOp,ho,Instr.buildSlice,Sem.run_bind,run_underlying ht,Result.andThen_ok,tP qB]
  rw [if_neg Gt,Sem.run_ite]
  by_cases h0:n*ti.size=0
  ·rw [if_pos h0] at Hj ⊢
   subst Hj
   simp only [Sem.run_bind,Sem.run_pure,Result.andThen_ok,oS]
   rw [h2]
   simp [newRow]
  ·rw [if_neg h0] at Hj ⊢
   subst Hj
   simp only [Sem.run_bind,Sem.run_pure,Result.andThen_ok,oS,rS]
   rw [h2]
   simp [newRow]
 ·intro M' β' EL hβ
  refine ⟨c',et,xQ w _,?_,(by show es.length≤n;omega),h4,fun i j hi hj=>?_⟩
  ·simp only [bp];rw [h3];simp
  ·have:=h5 i j hi hj
   simp only [bp] at this ⊢
   exact this.mono EL hβ
 ·intro M'
  have:=bS.os (w:={ w with heap:=w.heap.push (.cells c' et) }) (M:=M') (β:=pw β nm ⟨w.heap.size,0,n,e.sz⟩) (b:=nm) (off:=0) (len:=n) (cap:=n) (L:=⟨w.heap.size,0,n,e.sz⟩) (tW _ _ _) (ah _) (by simp)
  simpa using this
end
end Go.c8
