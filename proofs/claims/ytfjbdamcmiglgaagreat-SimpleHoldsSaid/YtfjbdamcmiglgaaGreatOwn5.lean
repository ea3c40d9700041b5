/- Part 5 of my own framework and of the walks of functions: AbsH. -/
import Derived.Test.YtfjbdamcmiglgaaGreatOwn4
import Derived.Laws.AppendOwn
import Derived.Laws.MakeOwn
abbrev cU:=@List.append_assoc
abbrev cF:=@List.getElem?_append_left
abbrev bT:=@List.getElem?_append_right
abbrev dv:=@List.getElem?_replicate
abbrev bX:=@List.getElem?_set_ne
abbrev az:=@List.length_append
abbrev ax:=@List.length_cons
abbrev aS:=@List.length_nil
abbrev bB:=@List.length_replicate
abbrev gQ:=@Ne.symm
set_option linter.unusedVariables false
set_option linter.unusedSectionVars false
set_option linter.unusedSimpArgs false
namespace Go.dm
open Go
def pQ (β:Env) (nm:Nat) (L:Loc):Env:=fun b=>if b=nm then some L else β b
section
variable {P:Program} {X:Nat→Nat→Prop} {base:Nat} {σ:ai} {β:Env} {w:World} {nm:Nat} {M:Nat→Nat→Prop}
theorem uR (β:Env) (nm:Nat) (L:Loc):pQ β nm L nm=some L:=by simp [pQ]
theorem De (β:Env) (nm:Nat) (L:Loc) {b:Nat} (h:b≠nm):pQ β nm L b = β b:=by simp [pQ,h]
theorem E1 (σ:ai) (nm:Nat) (cw:bO):(cr σ nm cw)[nm]? = some (some cw):=by
 unfold cr;split
 ·rename_i h;simp [h]
 ·rename_i h;rw [bT (by simp;omega)];simp only [az,bB];rw [show nm - (σ.length+(nm - σ.length))=0 by omega];rfl
theorem A1 (σ:ai) (nm:Nat) (cw:bO) {c:Nat} (h:c≠nm) {x:bO} (hx:(cr σ nm cw)[c]? = some (some x)) : σ[c]? = some (some x):=by
 unfold cr at hx;split at hx
 ·rwa [bX (gQ h)] at hx
 ·rename_i hl;by_cases h1:c < σ.length
  ·rwa [cU,cF h1] at hx
  ·exfalso;rw [cU,bT (by omega)] at hx;by_cases h2:c - σ.length<nm - σ.length
   ·rw [cF (by simp;omega)] at hx;simp [dv] at hx
   ·rw [bT (by simp;omega)] at hx;simp only [bB] at hx;cases hc:c - σ.length - (nm - σ.length) with
    | zero=>omega
    | succ k=>rw [hc] at hx;simp at hx
theorem Cc (σ:ai) (nm:Nat) (cw:bO) : σ.length≤(cr σ nm cw).length:=by
 unfold cr;split<;>simp<;>omega
theorem GZ (hr:cS X base σ β w) {c:Nat} {x:bO} (h : σ[c]? = some (some x)) {L:Loc} (hL : β c=some L):L.g<w.heap.size:=by
 obtain ⟨L',h1,_,_,h2⟩:=hr.cw c x h;obtain rfl:=aP (hL.symm.trans h1);exact h2.lt
theorem Q8 (hr:cS X base σ β w) (hn : β nm=none) {w':World} (cw:bO) (n sz:Nat) {obj:Obj} (hw:w'.heap=w.heap.push obj)
  (zp:w'.os=w.os) (sr:w'.tape=w.tape) (nw:w'.output=w.output) :
  Ext 0 σ β w (cr σ nm cw) (pQ β nm ⟨w.heap.size,0,n,sz⟩) w'∧dD w (MT X σ β) w' (MT X (cr σ nm cw) (pQ β nm ⟨w.heap.size,0,n,sz⟩)) ∧
   (∀ b L,β b=some L→pQ β nm ⟨w.heap.size,0,n,sz⟩ b=some L) ∧
   (gI w' (MT X (cr σ nm cw) (pQ β nm ⟨w.heap.size,0,n,sz⟩)) (pQ β nm ⟨w.heap.size,0,n,sz⟩) ⟨w.heap.size,0,n,sz⟩ cw→cS X base (cr σ nm cw) (pQ β nm ⟨w.heap.size,0,n,sz⟩) w'):=by
 have hold:∀ g,g<w.heap.size→w'.heap[g]? = w.heap[g]?:=fun g hg=>by rw [hw,fY,if_neg (by omega)]
 refine Fh hr nm ⟨w.heap.size,0,n,sz⟩ cw (E1 _ _ _) (fun c x hc hx=>⟨A1 _ _ _ hc hx,fun Lc hL=>?_⟩) (Cc _ _ _) (uR _ _ _) (fun c hc=>De _ _ _ hc) (.inl hn)
  zp sr nw (by rw [hw];simp) (fun g hg _=>hold g hg) (fun off v hc _=>absurd (yP hc) (by simp)) (fun h=>absurd h (by simp)) (fun off _=>.inr (ae _)) (fun o hx=>absurd (hr.qL _ _ hx) (by simp)) hr.size
 have:=GZ hr (A1 _ _ _ hc hx) hL;simp only;omega
theorem Ai (hr:cS X base σ β w) (hn : β nm=none) {w':World} (cw:bO) (n sz:Nat) {obj:Obj} (hw:w'.heap=w.heap.push obj)
  (zp:w'.os=w.os) (sr:w'.tape=w.tape) (nw:w'.output=w.output) {s:Sem Next} {v:Value} {r:ah} (ft:s.run P w = .ok (.value v) w')
  (jA:∀ M' β',dD w (MT X σ β) w' M'→(∀ b L,β b=some L→β' b=some L)→gI w' M' β' ⟨w.heap.size,0,n,sz⟩ cw)
  (hv:∀ M',cf w' M' (pQ β nm ⟨w.heap.size,0,n,sz⟩) v r):c8 P X base σ β w nm s r (cr σ nm cw):=by
 obtain ⟨h1,h2,h3,h4⟩:=Q8 hr hn cw n sz hw zp sr nw;exact ⟨v,w',_, .inl ft,h4 (jA _ _ h2 h3),hv _,h1,fun b hb=>De _ _ _ hb,h3⟩
theorem yK (w:World) (o:Obj):({ w with heap:=w.heap.push o }:World).heap[w.heap.size]? = some o:=by simp
theorem Ydp (hr:cS X base σ β w) (hn : β nm=none) {ρ:Operand→Value} {o:Oper} {t:TypeId} (ho:o.op = .alloc t) {l:fj} (hl:aF P t=some l) :
  c8 P X base σ β w nm (execOp ρ o) (.ptr nm 0) (cr σ nm (.var l.zero)):=by
 obtain ⟨z,h1,_,h2,h3,h4,_⟩:=Cj (w:=w) (M:=MT X σ β) (β:=β) hl;refine Ai hr hn (.var l.zero) l.zero.length 1 (obj:=.cells z.cells t) (w':={ w with heap:=w.heap.push (.cells z.cells t) }) rfl rfl rfl rfl (v:=.pointer (some ⟨w.heap.size,0,none⟩)) ?_ ?_ ?_
 ·simp [execOp,ho,Instr.alloc,h1,newVar,newRow]
 ·intro M' β' hk hβ;exact ⟨z.cells,t,yK w _,rfl,by omega,fun k e7=>(h4 k (by omega)).mono hk hβ⟩
 ·intro M';exact .ptr (L:=⟨w.heap.size,0,l.zero.length,1⟩) (off:=0) (uR _ _ _)
theorem Yt0 (hr:cS X base σ β w) (hn : β nm=none) {ρ:Operand→Value} {iC:Operand→ah} (er:∀ x,cf w (MT X σ β) β (ρ x) (iC x)) {o:Oper} {t:TypeId} {x:Operand} (ho:o.op = .box t x)
  (hc:(iC x).cells.all ah.cT=true):c8 P X base σ β w nm (execOp ρ o) (.ptr nm 0) (cr σ nm (.var (iC x).cells)):=by
 obtain ⟨h1,h2,_⟩:=Gp (er x) hc;refine Ai hr hn (.var (iC x).cells) (iC x).cells.length 1 (obj:=.cells (ρ x).cells t) (w':={ w with heap:=w.heap.push (.cells (ρ x).cells t) }) rfl rfl rfl rfl (v:=.pointer (some ⟨w.heap.size,0,none⟩)) ?_ ?_ ?_
 ·simp [execOp,ho,Instr.box,newVar,newRow]
 ·intro M' β' hk hβ;exact ⟨(ρ x).cells,t,yK w _,rfl,h1,fun k e7=>(h2 k e7).mono hk hβ⟩
 ·intro M';exact .ptr (L:=⟨w.heap.size,0,(iC x).cells.length,1⟩) (off:=0) (uR _ _ _)
theorem SQ (off:Nat):∀ (vs:List Value) (s:Nat) (c:Array Value),off+s+vs.length≤c.size →
  ((vs.zipIdx s).foldl (fun cs p=>cs.setIfInBounds (off+p.2) p.1) c).size=c.size ∧
  ∀ p,((vs.zipIdx s).foldl (fun cs p=>cs.setIfInBounds (off+p.2) p.1) c).getD p undef=if off+s≤p∧p<off+s+vs.length then vs.getD (p - (off+s)) undef else c.getD p undef
 | [],s,c,h=>⟨rfl,fun p=>by simp only [aS,cC];rw [if_neg (by omega)];rfl⟩
 | v :: vs,s,c,h=>by
  simp only [ax] at h;obtain ⟨h1,h2⟩:=SQ off vs (s+1) (c.setIfInBounds (off+s) v) (by simp;omega);simp only [List.zipIdx_cons,qA];refine ⟨by rw [h1];simp,fun p=>?_⟩;rw [h2 p];simp only [ax];by_cases e:p=off+s
  ·subst e;rw [if_neg (by omega),if_pos (by omega)];rw [ak,bJ,if_pos rfl,if_pos (by omega)];simp
  ·by_cases e2:off+(s+1)≤p∧p<off+(s+1)+vs.length
   ·rw [if_pos e2,if_pos (by omega)];rw [show p - (off+s)=p - (off+(s+1))+1 by omega,bI]
   ·rw [if_neg e2,if_neg (by omega)];rw [ak,bJ,if_neg (by omega),← ak]
theorem Tg {ρ:Operand→Value} {iC:Operand→ah} (er:∀ x,cf w M β (ρ x) (iC x)) {e:fj}:∀ (parts:List (Nat×Operand)) (k:Nat) (c:Array Value) (es:List ah),
  qu e iC k parts=some es→(k+es.length)*e.sz≤c.size →
  ∃ c',Instr.fill (fun i=>some (i*e.sz,e.sz)) c (parts.map fun (i,x)=>(i,ρ x))=some c'∧c'.size=c.size∧(∀ i,i<es.length→(es.getD i .undef).cells.length=e.sz) ∧
   (∀ i j,i<es.length→j<e.sz→cf w M β (c'.getD ((k+i)*e.sz+j) undef) ((es.getD i .undef).cells.getD j .undef))∧∀ p,p<k*e.sz→c'.getD p undef=c.getD p undef
 | [],k,c,es,h,_=>by
  simp only [qu,aH] at h;subst h;exact ⟨c,rfl,rfl,fun i hi=>by simp at hi,fun i j hi=>by simp at hi,fun _ _=>rfl⟩
 | (i,x) :: rest,k,c,es,h,hs=>by
  simp only [qu] at h;split at h
  ·rename_i hc;obtain ⟨rfl,sO,lJ,BB⟩:=hc;obtain ⟨tb,h1,rfl⟩:=aI.1 h;simp only [ax] at hs;obtain ⟨FW,xi,_,_⟩:=Gp (er x) BB;have e1:(i+(tb.length+1))*e.sz=i*e.sz+e.sz+tb.length*e.sz:=by rw [bQ,bQ,dL];omega
   obtain ⟨g1,g2⟩:=SQ (i*e.sz) (ρ x).cells.toList 0 c (by simp only [cC,bH];omega);obtain ⟨c',h2,h3,h4,h5,h6⟩:=Tg er rest (i+1) _ tb h1 (by rw [g1];rw [show i+1+tb.length=i+(tb.length+1) by omega];exact hs);refine ⟨c',?_,h3.trans g1,?_,?_,?_⟩
   ·simp only [aK,Instr.fill];have ly:¬ ((decide ((ρ x).cells.size≠e.sz)||decide (i*e.sz+(ρ x).cells.size > c.size))=true):=by simp only [bR,decide_eq_true_eq];omega
    rw [if_neg ly,← h2,← Array.foldl_toList,Array.toList_zipIdx]
   ·intro j hj;cases j with
    | zero=>exact sO
    | succ j=>simp only [ax] at hj;simpa using h4 j (by omega)
   ·intro j q hj hq;cases j with
    | zero =>
     have e2:(i+1)*e.sz=i*e.sz+e.sz:=by rw [bQ,dL]
     rw [cC,h6 _ (by omega),g2,if_pos (by simp only [cC,bH];omega)];have:=xi q (by omega);simp only [cC,bm]
     rwa [show i*e.sz+q - i*e.sz=q by omega,show (ρ x).cells.toList.getD q undef=(ρ x).cells.getD q undef by simp [List.getD,ak]]
    | succ j =>
     simp only [ax] at hj;have:=h5 j q (by omega) hq;rw [show i+1+j=i+(j+1) by omega] at this;simpa using this
   ·intro p hp;have e2:(i+1)*e.sz=i*e.sz+e.sz:=by rw [bQ,dL]
    rw [h6 p (by omega),g2,if_neg (by omega)]
  ·cases h
theorem Znn (hr:cS X base σ β w) (hn : β nm=none) {ρ:Operand→Value} {iC:Operand→ah} (er:∀ x,cf w (MT X σ β) β (ρ x) (iC x)) {o:Oper} {t:TypeId} {n:Nat} {parts:Array (Nat×Operand)}
  (ho:o.op = .buildSlice t n parts) {T:j9} (hT:bU P t=some T) {e:fj} (he:T.elem=some e) {es:List ah} (kj:qu e iC 0 parts.toList=some es) (hlen:es.length=n) (hk:T.kind = .slice)
  (vo:n*e.sz≤16777216) (fJ : 0<e.sz):c8 P X base σ β w nm (execOp ρ o) (.os nm 0 n e.sz) (cr σ nm (.row es 0)):=by
 obtain ⟨et,ht,ju⟩:=uP hT hk;rw [he] at ju;obtain ⟨ti,_,_,rD,_,_,hs,_⟩:=qE ju.symm;obtain ⟨z,sU,_,sV,_⟩:=Cj (w:=w) (M:=MT X σ β) (β:=β) ju.symm;obtain ⟨zc,Ig⟩:∃ zc:Array Value,zc=if n*e.sz=0 then #[] else z.cells:=⟨_,rfl⟩
 obtain ⟨c',h2,h3,h4,h5,_⟩:=Tg er parts.toList 0 ((Array.range (n*e.sz)).map (zc[· % zc.size]!)) es kj (by simp [hlen]);refine Ai hr hn (.row es 0) n e.sz (obj:=.cells c' et) (w':={ w with heap:=w.heap.push (.cells c' et) }) rfl rfl rfl rfl (v:=.slice (some ⟨w.heap.size,0,none⟩) n n) ?_ ?_ ?_
 ·have Hr:¬ n*ti.size > 2 ^ 24:=by rw [hs];omega
  rw [← hs] at Ig h2;simp only [execOp,ho,Instr.buildSlice,Sem.run_bind,run_underlying ht,Result.andThen_ok,uQ rD];rw [if_neg Hr,Sem.run_ite];by_cases h0:n*ti.size=0
  ·rw [if_pos h0] at Ig ⊢;subst Ig;simp only [Sem.run_bind,Sem.run_pure,Result.andThen_ok,pw];rw [h2];simp [newRow]
  ·rw [if_neg h0] at Ig ⊢;subst Ig;simp only [Sem.run_bind,Sem.run_pure,Result.andThen_ok,pw,sU];rw [h2];simp [newRow]
 ·intro M' β' Aw hβ;refine ⟨c',et,yK w _,?_,(by show es.length≤n;omega),h4,fun i j hi hj=>?_⟩
  ·simp only [bq];rw [h3];simp
  ·have:=h5 i j hi hj;simp only [bq] at this ⊢;exact this.mono Aw hβ
 ·intro M';have:=cf.os (w:={ w with heap:=w.heap.push (.cells c' et) }) (M:=M') (β:=pQ β nm ⟨w.heap.size,0,n,e.sz⟩) (b:=nm) (off:=0) (len:=n) (cap:=n) (L:=⟨w.heap.size,0,n,e.sz⟩) (uR _ _ _) (ae _) (by simp);simpa using this
end
end Go.dm
