/- Part 5 of my own framework and of the walks of functions: AbsH. -/
import Derived.Test.YtfjbdamcmiglgaaGreatOwn4
import Derived.Laws.AppendOwn
import Derived.Laws.MakeOwn
abbrev cG:=@List.append_assoc
abbrev ck:=@List.getElem?_append_left
abbrev bJ:=@List.getElem?_append_right
abbrev c9:=@List.getElem?_replicate
abbrev bL:=@List.getElem?_set_ne
abbrev ay:=@List.length_append
abbrev ax:=@List.length_cons
abbrev aR:=@List.length_nil
abbrev bz:=@List.length_replicate
abbrev fY:=@Ne.symm
set_option linter.unusedVariables false
set_option linter.unusedSectionVars false
set_option linter.unusedSimpArgs false
namespace Go.c8
open Go
def oZ (β:Env) (nm:Nat) (L:Loc):Env:=fun b=>if b=nm then some L else β b
section
variable {P:Program} {X:Nat→Nat→Prop} {base:Nat} {σ:ai} {β:Env} {w:World} {nm:Nat} {M:Nat→Nat→Prop}
theorem tq (β:Env) (nm:Nat) (L:Loc):oZ β nm L nm=some L:=by simp [oZ]
theorem B7 (β:Env) (nm:Nat) (L:Loc) {b:Nat} (h:b≠nm):oZ β nm L b = β b:=by simp [oZ,h]
theorem DQ (σ:ai) (nm:Nat) (cd:bE):(bZ σ nm cd)[nm]? = some (some cd):=by
 unfold bZ
 split
 ·rename_i h;simp [h]
 ·rename_i h
  rw [bJ (by simp;omega)]
  simp only [ay,bz]
  rw [show nm - (σ.length+(nm - σ.length))=0 by omega];rfl
theorem zD (σ:ai) (nm:Nat) (cd:bE) {c:Nat} (h:c≠nm) {x:bE} (hx:(bZ σ nm cd)[c]? = some (some x)) : σ[c]? = some (some x):=by
 unfold bZ at hx
 split at hx
 ·rwa [bL (fY h)] at hx
 ·rename_i hl
  by_cases h1:c < σ.length
  ·rwa [cG,ck h1] at hx
  ·exfalso
   rw [cG,bJ (by omega)] at hx
   by_cases h2:c - σ.length<nm - σ.length
   ·rw [ck (by simp;omega)] at hx
    simp [c9] at hx
   ·rw [bJ (by simp;omega)] at hx
    simp only [bz] at hx
    cases hc:c - σ.length - (nm - σ.length) with
    | zero=>omega
    | succ k=>rw [hc] at hx;simp at hx
theorem A0 (σ:ai) (nm:Nat) (cd:bE) : σ.length≤(bZ σ nm cd).length:=by
 unfold bZ;split<;>simp<;>omega
theorem Ft (hr:cC X base σ β w) {c:Nat} {x:bE} (h : σ[c]? = some (some x)) {L:Loc} (hL : β c=some L):L.g<w.heap.size:=by
 obtain ⟨L',h1,_,_,h2⟩:=hr.cd c x h
 obtain rfl:=aM (hL.symm.trans h1)
 exact h2.lt
theorem O1 (hr:cC X base σ β w) (hn : β nm=none) {w':World} (cd:bE) (n sz:Nat) {obj:Obj} (hw:w'.heap=w.heap.push obj)
  (yk:w'.os=w.os) (qP:w'.tape=w.tape) (mI:w'.output=w.output) :
  Ext 0 σ β w (bZ σ nm cd) (oZ β nm ⟨w.heap.size,0,n,sz⟩) w'∧df w (MT X σ β) w' (MT X (bZ σ nm cd) (oZ β nm ⟨w.heap.size,0,n,sz⟩)) ∧
   (∀ b L,β b=some L→oZ β nm ⟨w.heap.size,0,n,sz⟩ b=some L) ∧
   (fR w' (MT X (bZ σ nm cd) (oZ β nm ⟨w.heap.size,0,n,sz⟩)) (oZ β nm ⟨w.heap.size,0,n,sz⟩) ⟨w.heap.size,0,n,sz⟩ cd→cC X base (bZ σ nm cd) (oZ β nm ⟨w.heap.size,0,n,sz⟩) w'):=by
 have hold:∀ g,g<w.heap.size→w'.heap[g]? = w.heap[g]?:=fun g hg=>by rw [hw,fv,if_neg (by omega)]
 refine D1 hr nm ⟨w.heap.size,0,n,sz⟩ cd (DQ _ _ _) (fun c x hc hx=>⟨zD _ _ _ hc hx,fun Lc hL=>?_⟩) (A0 _ _ _) (tq _ _ _) (fun c hc=>B7 _ _ _ hc) (.inl hn)
  yk qP mI (by rw [hw];simp) (fun g hg _=>hold g hg) (fun off v hc _=>absurd (xC hc) (by simp)) (fun h=>absurd h (by simp)) (fun off _=>.inr (ah _)) (fun o hx=>absurd (hr.pW _ _ hx) (by simp)) hr.size
 have:=Ft hr (zD _ _ _ hc hx) hL
 simp only;omega
theorem y7 (hr:cC X base σ β w) (hn : β nm=none) {w':World} (cd:bE) (n sz:Nat) {obj:Obj} (hw:w'.heap=w.heap.push obj)
  (yk:w'.os=w.os) (qP:w'.tape=w.tape) (mI:w'.output=w.output) {s:Sem Next} {v:Value} {r:ae} (eL:s.run P w = .ok (.value v) w')
  (j9:∀ M' β',df w (MT X σ β) w' M'→(∀ b L,β b=some L→β' b=some L)→fR w' M' β' ⟨w.heap.size,0,n,sz⟩ cd)
  (hv:∀ M',bR w' M' (oZ β nm ⟨w.heap.size,0,n,sz⟩) v r):cN P X base σ β w nm s r (bZ σ nm cd):=by
 obtain ⟨h1,h2,h3,h4⟩:=O1 hr hn cd n sz hw yk qP mI
 exact ⟨v,w',_, .inl eL,h4 (j9 _ _ h2 h3),hv _,h1,fun b hb=>B7 _ _ _ hb,h3⟩
theorem xA (w:World) (o:Obj):({ w with heap:=w.heap.push o }:World).heap[w.heap.size]? = some o:=by simp
theorem XW (hr:cC X base σ β w) (hn : β nm=none) {ρ:Operand→Value} {o:Oper} {t:TypeId} (ho:o.op = .alloc t) {l:eF} (hl:aC P t=some l) :
  cN P X base σ β w nm (execOp ρ o) (.ptr nm 0) (bZ σ nm (.var l.zero)):=by
 obtain ⟨z,h1,_,h2,h3,h4,_⟩:=A5 (w:=w) (M:=MT X σ β) (β:=β) hl
 refine y7 hr hn (.var l.zero) l.zero.length 1 (obj:=.cells z.cells t) (w':={ w with heap:=w.heap.push (.cells z.cells t) }) rfl rfl rfl rfl (v:=.pointer (some ⟨w.heap.size,0,none⟩)) ?_ ?_ ?_
 ·simp [execOp,ho,Instr.alloc,h1,newVar,newRow]
 ·intro M' β' hk hβ
  exact ⟨z.cells,t,xA w _,rfl,by omega,fun k er=>(h4 k (by omega)).mono hk hβ⟩
 ·intro M'
  exact .ptr (L:=⟨w.heap.size,0,l.zero.length,1⟩) (off:=0) (tq _ _ _)
theorem Yo8 (hr:cC X base σ β w) (hn : β nm=none) {ρ:Operand→Value} {gV:Operand→ae} (dJ:∀ x,bR w (MT X σ β) β (ρ x) (gV x)) {o:Oper} {t:TypeId} {x:Operand} (ho:o.op = .box t x)
  (hc:(gV x).cells.all ae.cF=true):cN P X base σ β w nm (execOp ρ o) (.ptr nm 0) (bZ σ nm (.var (gV x).cells)):=by
 obtain ⟨h1,h2,_⟩:=E1 (dJ x) hc
 refine y7 hr hn (.var (gV x).cells) (gV x).cells.length 1 (obj:=.cells (ρ x).cells t) (w':={ w with heap:=w.heap.push (.cells (ρ x).cells t) }) rfl rfl rfl rfl (v:=.pointer (some ⟨w.heap.size,0,none⟩)) ?_ ?_ ?_
 ·simp [execOp,ho,Instr.box,newVar,newRow]
 ·intro M' β' hk hβ
  exact ⟨(ρ x).cells,t,xA w _,rfl,h1,fun k er=>(h2 k er).mono hk hβ⟩
 ·intro M'
  exact .ptr (L:=⟨w.heap.size,0,(gV x).cells.length,1⟩) (off:=0) (tq _ _ _)
theorem Qb (off:Nat):∀ (vs:List Value) (s:Nat) (c:Array Value),off+s+vs.length≤c.size →
  ((vs.zipIdx s).foldl (fun cs p=>cs.setIfInBounds (off+p.2) p.1) c).size=c.size ∧
  ∀ p,((vs.zipIdx s).foldl (fun cs p=>cs.setIfInBounds (off+p.2) p.1) c).getD p undef=if off+s≤p∧p<off+s+vs.length then vs.getD (p - (off+s)) undef else c.getD p undef
 | [],s,c,h=>⟨rfl,fun p=>by simp only [aR,cg];rw [if_neg (by omega)];rfl⟩
 | v :: vs,s,c,h=>by
  simp only [ax] at h
  obtain ⟨h1,h2⟩:=Qb off vs (s+1) (c.setIfInBounds (off+s) v) (by simp;omega)
  simp only [List.zipIdx_cons,List.foldl_cons]
  refine ⟨by rw [h1];simp,fun p=>?_⟩
  rw [h2 p]
  simp only [ax]
  by_cases e:p=off+s
  ·subst e
   rw [if_neg (by omega),if_pos (by omega)]
   rw [aj,bC,if_pos rfl,if_pos (by omega)]
   simp
  ·by_cases e2:off+(s+1)≤p∧p<off+(s+1)+vs.length
   ·rw [if_pos e2,if_pos (by omega)]
    rw [show p - (off+s)=p - (off+(s+1))+1 by omega,bB]
   ·rw [if_neg e2,if_neg (by omega)]
    rw [aj,bC,if_neg (by omega),← aj]
theorem QG {ρ:Operand→Value} {gV:Operand→ae} (dJ:∀ x,bR w M β (ρ x) (gV x)) {e:eF}:∀ (parts:List (Nat×Operand)) (k:Nat) (c:Array Value) (es:List ae),
  pK e gV k parts=some es→(k+es.length)*e.sz≤c.size →
  ∃ c',Instr.fill (fun i=>some (i*e.sz,e.sz)) c (parts.map fun (i,x)=>(i,ρ x))=some c'∧c'.size=c.size∧(∀ i,i<es.length→(es.getD i .undef).cells.length=e.sz) ∧
   (∀ i j,i<es.length→j<e.sz→bR w M β (c'.getD ((k+i)*e.sz+j) undef) ((es.getD i .undef).cells.getD j .undef))∧∀ p,p<k*e.sz→c'.getD p undef=c.getD p undef
 | [],k,c,es,h,_=>by
  simp only [pK,aG] at h;subst h
  exact ⟨c,rfl,rfl,fun i hi=>by simp at hi,fun i j hi=>by simp at hi,fun _ _=>rfl⟩
 | (i,x) :: rest,k,c,es,h,hs=>by
  simp only [pK] at h
  split at h
  ·rename_i hc
   obtain ⟨rfl,rm,kY,Ai⟩:=hc
   obtain ⟨rC,h1,rfl⟩:=aH.1 h
   simp only [ax] at hs
   obtain ⟨Ew,vY,_,_⟩:=E1 (dJ x) Ai
   have e1:(i+(rC.length+1))*e.sz=i*e.sz+e.sz+rC.length*e.sz:=by rw [bH,bH,dt];omega
   obtain ⟨g1,g2⟩:=Qb (i*e.sz) (ρ x).cells.toList 0 c (by simp only [cg,bA];omega)
   obtain ⟨c',h2,h3,h4,h5,h6⟩:=QG dJ rest (i+1) _ rC h1 (by rw [g1];rw [show i+1+rC.length=i+(rC.length+1) by omega];exact hs)
   refine ⟨c',?_,h3.trans g1,?_,?_,?_⟩
   ·simp only [aF,Instr.fill]
    have mB:¬ ((decide ((ρ x).cells.size≠e.sz)||decide (i*e.sz+(ρ x).cells.size > c.size))=true):=by simp only [bY,decide_eq_true_eq];omega
    rw [if_neg mB,← h2,← Array.foldl_toList,Array.toList_zipIdx]
   ·intro j hj
    cases j with
    | zero=>exact rm
    | succ j=>simp only [ax] at hj;simpa using h4 j (by omega)
   ·intro j q hj hq
    cases j with
    | zero =>
     have e2:(i+1)*e.sz=i*e.sz+e.sz:=by rw [bH,dt]
     rw [cg,h6 _ (by omega),g2,if_pos (by simp only [cg,bA];omega)]
     have:=vY q (by omega)
     simp only [cg,bf]
     rwa [show i*e.sz+q - i*e.sz=q by omega,show (ρ x).cells.toList.getD q undef=(ρ x).cells.getD q undef by simp [List.getD,aj]]
    | succ j =>
     simp only [ax] at hj
     have:=h5 j q (by omega) hq
     rw [show i+1+j=i+(j+1) by omega] at this
     simpa using this
   ·intro p hp
    have e2:(i+1)*e.sz=i*e.sz+e.sz:=by rw [bH,dt]
    rw [h6 p (by omega),g2,if_neg (by omega)]
  ·cases h
theorem Zm7 (hr:cC X base σ β w) (hn : β nm=none) {ρ:Operand→Value} {gV:Operand→ae} (dJ:∀ x,bR w (MT X σ β) β (ρ x) (gV x)) {o:Oper} {t:TypeId} {n:Nat} {parts:Array (Nat×Operand)}
  (ho:o.op = .buildSlice t n parts) {T:jH} (hT:bK P t=some T) {e:eF} (he:T.elem=some e) {es:List ae} (ow:pK e gV 0 parts.toList=some es) (hlen:es.length=n) (hk:T.kind = .slice)
  (tV:n*e.sz≤16777216) (fF : 0<e.sz):cN P X base σ β w nm (execOp ρ o) (.os nm 0 n e.sz) (bZ σ nm (.row es 0)):=by
 obtain ⟨et,ht,iR⟩:=tj hT hk
 rw [he] at iR
 obtain ⟨ti,_,_,qk,_,_,hs,_⟩:=pO iR.symm
 obtain ⟨z,rv,_,ry,_⟩:=A5 (w:=w) (M:=MT X σ β) (β:=β) iR.symm
 obtain ⟨zc,GN⟩:∃ zc:Array Value,zc=if n*e.sz=0 then #[] else z.cells:=⟨_,rfl⟩
 obtain ⟨c',h2,h3,h4,h5,_⟩:=QG dJ parts.toList 0 ((Array.range (n*e.sz)).map (zc[· % zc.size]!)) es ow (by simp [hlen])
 refine y7 hr hn (.row es 0) n e.sz (obj:=.cells c' et) (w':={ w with heap:=w.heap.push (.cells c' et) }) rfl rfl rfl rfl (v:=.slice (some ⟨w.heap.size,0,none⟩) n n) ?_ ?_ ?_
 ·have F0:¬ n*ti.size > 2 ^ 24:=by rw [hs];omega
  rw [← hs] at GN h2
  simp only [execOp,ho,Instr.buildSlice,Sem.run_bind,run_underlying ht,Result.andThen_ok,tn qk]
  rw [if_neg F0,Sem.run_ite]
  by_cases h0:n*ti.size=0
  ·rw [if_pos h0] at GN ⊢
   subst GN
   simp only [Sem.run_bind,Sem.run_pure,Result.andThen_ok,oC]
   rw [h2]
   simp [newRow]
  ·rw [if_neg h0] at GN ⊢
   subst GN
   simp only [Sem.run_bind,Sem.run_pure,Result.andThen_ok,oC,rv]
   rw [h2]
   simp [newRow]
 ·intro M' β' En hβ
  refine ⟨c',et,xA w _,?_,(by show es.length≤n;omega),h4,fun i j hi hj=>?_⟩
  ·simp only [bm];rw [h3];simp
  ·have:=h5 i j hi hj
   simp only [bm] at this ⊢
   exact this.mono En hβ
 ·intro M'
  have:=bR.os (w:={ w with heap:=w.heap.push (.cells c' et) }) (M:=M') (β:=oZ β nm ⟨w.heap.size,0,n,e.sz⟩) (b:=nm) (off:=0) (len:=n) (cap:=n) (L:=⟨w.heap.size,0,n,e.sz⟩) (tq _ _ _) (ah _) (by simp)
  simpa using this
end
end Go.c8
