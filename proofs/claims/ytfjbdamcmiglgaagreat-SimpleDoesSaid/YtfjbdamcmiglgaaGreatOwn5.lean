/- Part 5 of what the claim rests on. -/
import Derived.Test.YtfjbdamcmiglgaaGreatOwn4
import Derived.Laws.AppendOwn
import Derived.Laws.MakeOwn
set_option linter.all false
abbrev cg:=@List.append_assoc
abbrev cK:=@List.getElem?_append_left
abbrev b9:=@List.getElem?_append_right
abbrev dz:=@List.getElem?_replicate
abbrev b_:=@List.getElem?_set_ne
abbrev aA:=@List.length_append
abbrev aq:=@List.length_cons
abbrev aF:=@List.length_nil
abbrev bJ:=@List.length_replicate
abbrev gV:=@Ne.symm
namespace Go.dq
open Go
def qM (β:Env)(nm:Nat)(L:Loc):Env:=λb=>if b=nm then some L else β b
section
variable {P:Program}{X:Nat->Nat->Prop}{base:Nat}{σ:av}{β:Env}{w:World}{nm:Nat}{M:Nat->Nat->Prop}
theorem wv (β:Env)(nm:Nat)(L:Loc):qM β nm L nm=some L:=by simp[qM]
theorem EP (β:Env)(nm:Nat)(L:Loc){b:Nat}(h:b≠nm):qM β nm L b = β b:=by simp[qM,h]
theorem GI (σ:av)(nm:Nat)(cG:bS):(cJ σ nm cG)[nm]? = some (some cG):=by
 unfold cJ;split
 ·rename_i h;simp[h]
 ·rename_i h;rw[b9 (by simp;omega)];simp only[aA,bJ];rw[show nm-(σ.length+(nm-σ.length))=0 by omega];rfl
theorem Cq (σ:av) (nm:Nat) (cG:bS) {c:Nat} (h:c≠nm) {x:bS} (hx:(cJ σ nm cG)[c]? = some (some x)): σ[c]? = some (some x):=by
 unfold cJ at hx;split at hx
 ·rwa [b_ (gV h)]at hx
 ·rename_i hl;by_cases h1:c < σ.length
  ·rwa [cg,cK h1]at hx
  ·exfalso;rw[cg,b9 (by omega)]at hx;by_cases h2:c-σ.length<nm-σ.length
   ·rw[cK (by simp;omega)]at hx;simp[dz]at hx
   ·rw[b9 (by simp;omega)]at hx;simp only[bJ]at hx;cases hc:c-σ.length-(nm-σ.length) with
    |zero=>omega
    |succ k=>rw[hc]at hx;simp at hx
theorem DI (σ:av)(nm:Nat)(cG:bS): σ.length<=(cJ σ nm cG).length:=by
 unfold cJ;split<;>simp<;>omega
theorem Ix (hr:c8 X base σ β w){c:Nat}{x:bS}(h : σ[c]? = some (some x)){L:Loc}(hL : β c=some L):L.g<w.heap.size:=by
 obtain⟨L',h1,_,_,h2⟩:=hr.cG c x h;obtain rfl:=aS (hL.symm.trans h1);exact h2.lt
theorem Ug (hr:c8 X base σ β w) (hn : β nm=none) {w':World} (cG:bS) (n sz:Nat) {obj:Obj} (hw:w'.heap=w.heap.push obj)
  (A5:w'.os=w.os) (tP:w'.tape=w.tape) (ow:w'.output=w.output) :
  Ext 0 σ β w (cJ σ nm cG) (qM β nm ⟨w.heap.size,0,n,sz⟩) w'/\dK w (MT X σ β) w' (MT X (cJ σ nm cG) (qM β nm ⟨w.heap.size,0,n,sz⟩)) /\
   (∀b L,β b=some L->qM β nm ⟨w.heap.size,0,n,sz⟩ b=some L) /\
   (ig w' (MT X (cJ σ nm cG) (qM β nm ⟨w.heap.size,0,n,sz⟩)) (qM β nm ⟨w.heap.size,0,n,sz⟩) ⟨w.heap.size,0,n,sz⟩ cG->c8 X base (cJ σ nm cG) (qM β nm ⟨w.heap.size,0,n,sz⟩) w'):=by
 have hold:∀g,g<w.heap.size->w'.heap[g]? = w.heap[g]?:=λg hg=>by rw[hw,gK,if_neg (by omega)]
 refine GR hr nm ⟨w.heap.size,0,n,sz⟩ cG (GI _ _ _) (λc x hc hx=>⟨Cq _ _ _ hc hx,λLc hL=>?_⟩) (DI _ _ _) (wv _ _ _) (λc hc=>EP _ _ _ hc) (.inl hn)
  A5 tP ow (by rw[hw];simp) (λg hg _=>hold g hg) (λoff v hc _=>absurd (Ae hc) (by simp)) (λh=>absurd h (by simp)) (λoff _=>.inr (ae _)) (λo hx=>absurd (hr.sc _ _ hx) (by simp)) hr.size
 have:=Ix hr (Cq _ _ _ hc hx) hL;simp only;omega
theorem BS (hr:c8 X base σ β w) (hn : β nm=none) {w':World} (cG:bS) (n sz:Nat) {obj:Obj} (hw:w'.heap=w.heap.push obj)
  (A5:w'.os=w.os) (tP:w'.tape=w.tape) (ow:w'.output=w.output) {s:Sem Next} {v:Value} {r:ah} (fE:s.run P w=.ok (.value v) w')
  (jB:∀M' β',dK w (MT X σ β) w' M'->(∀b L,β b=some L->β' b=some L)->ig w' M' β' ⟨w.heap.size,0,n,sz⟩ cG)
  (hv:∀M',cn w' M' (qM β nm ⟨w.heap.size,0,n,sz⟩) v r):dh P X base σ β w nm s r (cJ σ nm cG):=by
 obtain⟨h1,h2,h3,h4⟩:=Ug hr hn cG n sz hw A5 tP ow;exact⟨v,w',_,.inl fE,h4 (jB _ _ h2 h3),hv _,h1,λb hb=>EP _ _ _ hb,h3⟩
theorem Aa (w:World)(o:Obj):({ w with heap:=w.heap.push o }:World).heap[w.heap.size]? = some o:=by simp
theorem Ygn (hr:c8 X base σ β w) (hn : β nm=none) {ρ:Operand->Value} {o:Oper} {t:TypeId} (ho:o.op=.alloc t) {l:fL} (hl:cC P t=some l) :
  dh P X base σ β w nm (execOp ρ o) (.ptr nm 0) (cJ σ nm (.var l.zero)):=by
 obtain⟨z,h1,_,h2,h3,h4,_⟩:=DM (w:=w) (M:=MT X σ β) (β:=β) hl;refine BS hr hn (.var l.zero) l.zero.length 1 (obj:=.cells z.cells t) (w':={ w with heap:=w.heap.push (.cells z.cells t) }) rfl rfl rfl rfl (v:=.pointer (some ⟨w.heap.size,0,none⟩)) ?_ ?_ ?_
 ·simp[execOp,ho,Instr.alloc,h1,newVar,newRow]
 ·intro M' β' hk hβ;exact⟨z.cells,t,Aa w _,rfl,by omega,λk eZ=>(h4 k (by omega)).mono hk hβ⟩
 ·intro M';exact .ptr (L:=⟨w.heap.size,0,l.zero.length,1⟩) (off:=0) (wv _ _ _)
theorem Yta (hr:c8 X base σ β w) (hn : β nm=none) {ρ:Operand->Value} {je:Operand->ah} (eI:∀x,cn w (MT X σ β) β (ρ x) (je x)) {o:Oper} {t:TypeId} {x:Operand} (ho:o.op=.box t x)
  (hc:(je x).cells.all ah.dy=true):dh P X base σ β w nm (execOp ρ o) (.ptr nm 0) (cJ σ nm (.var (je x).cells)):=by
 obtain⟨h1,h2,_⟩:=H0 (eI x) hc;refine BS hr hn (.var (je x).cells) (je x).cells.length 1 (obj:=.cells (ρ x).cells t) (w':={ w with heap:=w.heap.push (.cells (ρ x).cells t) }) rfl rfl rfl rfl (v:=.pointer (some ⟨w.heap.size,0,none⟩)) ?_ ?_ ?_
 ·simp[execOp,ho,Instr.box,newVar,newRow]
 ·intro M' β' hk hβ;exact⟨(ρ x).cells,t,Aa w _,rfl,h1,λk eZ=>(h2 k eZ).mono hk hβ⟩
 ·intro M';exact .ptr (L:=⟨w.heap.size,0,(je x).cells.length,1⟩) (off:=0) (wv _ _ _)
theorem VE (off:Nat):∀(vs:List Value) (s:Nat) (c:Array Value),off+s+vs.length<=c.size ->
  ((vs.zipIdx s).foldl (λcs p=>cs.setIfInBounds (off+p.2) p.1) c).size=c.size /\
  ∀p,((vs.zipIdx s).foldl (λcs p=>cs.setIfInBounds (off+p.2) p.1) c).getD p undef=if off+s<=p/\p<off+s+vs.length then vs.getD (p-(off+s)) undef else c.getD p undef
 |[],s,c,h=>⟨rfl,λp=>by simp only[aF,cF];rw[if_neg (by omega)];rfl⟩
 | v :: vs,s,c,h=>by
  simp only[aq]at h;obtain⟨h1,h2⟩:=VE off vs (s+1) (c.setIfInBounds (off+s) v) (by simp;omega);simp only[List.zipIdx_cons,rR];refine⟨by rw[h1];simp,λp=>?_⟩;rw[h2 p];simp only[aq];by_cases e:p=off+s
  ·subst e;rw[if_neg (by omega),if_pos (by omega)];rw[au,bK,if_pos rfl,if_pos (by omega)];simp
  ·by_cases e2:off+(s+1)<=p/\p<off+(s+1)+vs.length
   ·rw[if_pos e2,if_pos (by omega)];rw[show p-(off+s)=p-(off+(s+1))+1 by omega,bE]
   ·rw[if_neg e2,if_neg (by omega)];rw[au,bK,if_neg (by omega),<-au]
theorem VR {ρ:Operand->Value} {je:Operand->ah} (eI:∀x,cn w M β (ρ x) (je x)) {e:fL}:∀(parts:List (Nat×Operand)) (k:Nat) (c:Array Value) (es:List ah),
  rM e je k parts=some es->(k+es.length)*e.sz<=c.size ->
  ∃c',Instr.fill (λi=>some (i*e.sz,e.sz)) c (parts.map λ(i,x)=>(i,ρ x))=some c'/\c'.size=c.size/\(∀i,i<es.length->(es.getD i .undef).cells.length=e.sz) /\
   (∀i j,i<es.length->j<e.sz->cn w M β (c'.getD ((k+i)*e.sz+j) undef) ((es.getD i .undef).cells.getD j .undef))/\∀p,p<k*e.sz->c'.getD p undef=c.getD p undef
 |[],k,c,es,h,_=>by
  simp only[rM,aM]at h;subst h;exact⟨c,rfl,rfl,λi hi=>by simp at hi,λi j hi=>by simp at hi,λ_ _=>rfl⟩
 | (i,x):: rest,k,c,es,h,hs=>by
  simp only[rM]at h;split at h
  ·rename_i hc;obtain⟨rfl,uu,lS,C6⟩:=hc;obtain⟨uB,h1,rfl⟩:=aP.1 h;simp only[aq]at hs;obtain⟨Ep,yB,_,_⟩:=H0 (eI x) C6;have e1:(i+(uB.length+1))*e.sz=i*e.sz+e.sz+uB.length*e.sz:=by rw[bY,bY,dX];omega
   obtain⟨g1,g2⟩:=VE (i*e.sz) (ρ x).cells.toList 0 c (by simp only[cF,bR];omega);obtain⟨c',h2,h3,h4,h5,h6⟩:=VR eI rest (i+1) _ uB h1 (by rw[g1];rw[show i+1+uB.length=i+(uB.length+1) by omega];exact hs);refine⟨c',?_,h3.trans g1,?_,?_,?_⟩
   ·simp only[aI,Instr.fill];have mj:¬((decide ((ρ x).cells.size≠e.sz)||decide (i*e.sz+(ρ x).cells.size > c.size))=true):=by simp only[cb,decide_eq_true_eq];omega
    rw[if_neg mj,<-h2,<-Array.foldl_toList,Array.toList_zipIdx]
   ·intro j hj;cases j with
    |zero=>exact uu
    |succ j=>simp only[aq]at hj;simpa using h4 j (by omega)
   ·intro j q hj hq;cases j with
    |zero =>
     have e2:(i+1)*e.sz=i*e.sz+e.sz:=by rw[bY,dX]
     rw[cF,h6 _ (by omega),g2,if_pos (by simp only[cF,bR];omega)];have:=yB q (by omega);simp only[cF,aV]
     rwa [show i*e.sz+q-i*e.sz=q by omega,show(ρ x).cells.toList.getD q undef=(ρ x).cells.getD q undef by simp[List.getD,au]]
    |succ j =>
     simp only[aq]at hj;have:=h5 j q (by omega) hq;rw[show i+1+j=i+(j+1) by omega]at this;simpa using this
   ·intro p hp;have e2:(i+1)*e.sz=i*e.sz+e.sz:=by rw[bY,dX]
    rw[h6 p (by omega),g2,if_neg (by omega)]
  ·cases h
theorem Zo7 (hr:c8 X base σ β w) (hn : β nm=none) {ρ:Operand->Value} {je:Operand->ah} (eI:∀x,cn w (MT X σ β) β (ρ x) (je x)) {o:Oper} {t:TypeId} {n:Nat} {parts:Array (Nat×Operand)}
  (ho:o.op=.buildSlice t n parts) {T:kG} (hT:gF P t=some T) {e:fL} (he:T.elem=some e) {es:List ah} (kp:rM e je 0 parts.toList=some es) (hlen:es.length=n) (hk:T.kind=.slice)
  (wP:n*e.sz<=16777216) (eM : 0<e.sz):dh P X base σ β w nm (execOp ρ o) (.os nm 0 n e.sz) (cJ σ nm (.row es 0)):=by
 obtain⟨et,ht,jD⟩:=wo hT hk;rw[he]at jD;obtain⟨ti,_,_,rX,_,_,hs,_⟩:=rS jD.symm;obtain⟨z,rY,_,rE,_⟩:=DM (w:=w) (M:=MT X σ β) (β:=β) jD.symm;obtain⟨zc,J1⟩:∃zc:Array Value,zc=if n*e.sz=0 then #[] else z.cells:=⟨_,rfl⟩
 obtain⟨c',h2,h3,h4,h5,_⟩:=VR eI parts.toList 0 ((Array.range (n*e.sz)).map (zc[· % zc.size]!)) es kp (by simp[hlen]);refine BS hr hn (.row es 0) n e.sz (obj:=.cells c' et) (w':={ w with heap:=w.heap.push (.cells c' et) }) rfl rfl rfl rfl (v:=.slice (some ⟨w.heap.size,0,none⟩) n n) ?_ ?_ ?_
 ·have I7:¬n*ti.size > 2 ^ 24:=by rw[hs];omega
  rw[<-hs]at J1 h2;simp only[execOp,ho,Instr.buildSlice,Sem.run_bind,run_underlying ht,Result.andThen_ok,wq rX];rw[if_neg I7,Sem.run_ite];by_cases h0:n*ti.size=0
  ·rw[if_pos h0]at J1 ⊢;subst J1;simp only[Sem.run_bind,Sem.run_pure,Result.andThen_ok,ql];rw[h2];simp[newRow]
  ·rw[if_neg h0]at J1 ⊢;subst J1;simp only[Sem.run_bind,Sem.run_pure,Result.andThen_ok,ql,rY];rw[h2];simp[newRow]
 ·intro M' β' Hn hβ;refine⟨c',et,Aa w _,?_,(by show es.length<=n;omega),h4,λi j hi hj=>?_⟩
  ·simp only[br];rw[h3];simp
  ·have:=h5 i j hi hj;simp only[br]at this ⊢;exact this.mono Hn hβ
 ·intro M';have:=cn.os (w:={ w with heap:=w.heap.push (.cells c' et) }) (M:=M') (β:=qM β nm ⟨w.heap.size,0,n,e.sz⟩) (b:=nm) (off:=0) (len:=n) (cap:=n) (L:=⟨w.heap.size,0,n,e.sz⟩) (wv _ _ _) (ae _) (by simp);simpa using this
end
end Go.dq
