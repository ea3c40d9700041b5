/- Part 5 of my own framework and of the walks of functions: AbsH. -/
import Derived.Test.YtpgnahcljlclcaaGreatOwn4
import Derived.Laws.AppendOwn
import Derived.Laws.MakeOwn
set_option linter.unusedVariables false
set_option linter.unusedSectionVars false
set_option linter.unusedSimpArgs false
namespace Go.Abs
open Go
def upd (β:Env) (nm:Nat) (L:Loc):Env:=fun b=>if b=nm then some L else β b
section
variable {P:Program} {X:Nat→Nat→Prop} {base:Nat} {σ:Store} {β:Env} {w:World} {nm:Nat} {M:Nat→Nat→Prop}
theorem Zbs (β:Env) (nm:Nat) (L:Loc):upd β nm L nm=some L:=by simp [upd]
theorem Zdg (β:Env) (nm:Nat) (L:Loc) {b:Nat} (h:b≠nm):upd β nm L b = β b:=by simp [upd,h]
theorem Zeg (σ:Store) (nm:Nat) (blk:Blk):(setS σ nm blk)[nm]? = some (some blk):=by
 unfold setS
 split
 ·rename_i h;simp [h]
 ·rename_i h
  rw [List.getElem?_append_right (by simp;omega)]
  simp only [List.length_append,List.length_replicate]
  rw [show nm - (σ.length+(nm - σ.length))=0 by omega];rfl
theorem Zc5 (σ:Store) (nm:Nat) (blk:Blk) {c:Nat} (h:c≠nm) {x:Blk} (hx:(setS σ nm blk)[c]? = some (some x)) : σ[c]? = some (some x):=by
 unfold setS at hx
 split at hx
 ·rwa [List.getElem?_set_ne (Ne.symm h)] at hx
 ·rename_i hl
  by_cases h1:c < σ.length
  ·rwa [List.append_assoc,List.getElem?_append_left h1] at hx
  ·exfalso
   rw [List.append_assoc,List.getElem?_append_right (by omega)] at hx
   by_cases h2:c - σ.length<nm - σ.length
   ·rw [List.getElem?_append_left (by simp;omega)] at hx
    simp [List.getElem?_replicate] at hx
   ·rw [List.getElem?_append_right (by simp;omega)] at hx
    simp only [List.length_replicate] at hx
    cases hc:c - σ.length - (nm - σ.length) with
    | zero=>omega
    | succ k=>rw [hc] at hx;simp at hx
theorem Zc0 (σ:Store) (nm:Nat) (blk:Blk) : σ.length≤(setS σ nm blk).length:=by
 unfold setS;split<;>simp<;>omega
theorem Zks (hr:RelS X base σ β w) {c:Nat} {x:Blk} (h : σ[c]? = some (some x)) {L:Loc} (hL : β c=some L):L.g<w.heap.size:=by
 obtain ⟨L',h1,_,_,h2⟩:=hr.blk c x h
 obtain rfl:=Option.some.inj (hL.symm.trans h1)
 exact h2.lt
theorem Ycq (hr:RelS X base σ β w) (hn : β nm=none) {w':World} (blk:Blk) (n sz:Nat) {obj:Obj} (hw:w'.heap=w.heap.push obj)
  (hos:w'.os=w.os) (htape:w'.tape=w.tape) (hout:w'.output=w.output) :
  Ext 0 σ β w (setS σ nm blk) (upd β nm ⟨w.heap.size,0,n,sz⟩) w'∧Keeps w (MT X σ β) w' (MT X (setS σ nm blk) (upd β nm ⟨w.heap.size,0,n,sz⟩)) ∧
   (∀ b L,β b=some L→upd β nm ⟨w.heap.size,0,n,sz⟩ b=some L) ∧
   (BlkOk w' (MT X (setS σ nm blk) (upd β nm ⟨w.heap.size,0,n,sz⟩)) (upd β nm ⟨w.heap.size,0,n,sz⟩) ⟨w.heap.size,0,n,sz⟩ blk→RelS X base (setS σ nm blk) (upd β nm ⟨w.heap.size,0,n,sz⟩) w'):=by
 have hold:∀ g,g<w.heap.size→w'.heap[g]? = w.heap[g]?:=fun g hg=>by rw [hw,Array.getElem?_push,if_neg (by omega)]
 refine Zg2 hr nm ⟨w.heap.size,0,n,sz⟩ blk (Zeg _ _ _) (fun c x hc hx=>⟨Zc5 _ _ _ hc hx,fun Lc hL=>?_⟩) (Zc0 _ _ _) (Zbs _ _ _) (fun c hc=>Zdg _ _ _ hc) (.inl hn)
  hos htape hout (by rw [hw];simp) (fun g hg _=>hold g hg) (fun off v hc _=>absurd (Zck hc) (by simp)) (fun h=>absurd h (by simp)) (fun off _=>.inr (Nat.le_refl _)) (fun o hx=>absurd (hr.xlt _ _ hx) (by simp)) hr.size
 have:=Zks hr (Zc5 _ _ _ hc hx) hL
 simp only;omega
theorem Zf2 (hr:RelS X base σ β w) (hn : β nm=none) {w':World} (blk:Blk) (n sz:Nat) {obj:Obj} (hw:w'.heap=w.heap.push obj)
  (hos:w'.os=w.os) (htape:w'.tape=w.tape) (hout:w'.output=w.output) {s:Sem Next} {v:Value} {r:AVal} (hrun:s.run P w = .ok (.value v) w')
  (hok:∀ M' β',Keeps w (MT X σ β) w' M'→(∀ b L,β b=some L→β' b=some L)→BlkOk w' M' β' ⟨w.heap.size,0,n,sz⟩ blk)
  (hv:∀ M',Rep w' M' (upd β nm ⟨w.heap.size,0,n,sz⟩) v r):OpOut P X base σ β w nm s r (setS σ nm blk):=by
 obtain ⟨h1,h2,h3,h4⟩:=Ycq hr hn blk n sz hw hos htape hout
 exact ⟨v,w',_, .inl hrun,h4 (hok _ _ h2 h3),hv _,h1,fun b hb=>Zdg _ _ _ hb,h3⟩
theorem Zbd (w:World) (o:Obj):({ w with heap:=w.heap.push o }:World).heap[w.heap.size]? = some o:=by simp
theorem Ya9 (hr:RelS X base σ β w) (hn : β nm=none) {ρ:Operand→Value} {o:Oper} {t:TypeId} (ho:o.op = .alloc t) {l:Lay} (hl:layOf P t=some l) :
  OpOut P X base σ β w nm (execOp ρ o) (.ptr nm 0) (setS σ nm (.var l.zero)):=by
 obtain ⟨z,h1,_,h2,h3,h4,_⟩:=Zd0 (w:=w) (M:=MT X σ β) (β:=β) hl
 refine Zf2 hr hn (.var l.zero) l.zero.length 1 (obj:=.cells z.cells t) (w':={ w with heap:=w.heap.push (.cells z.cells t) }) rfl rfl rfl rfl (v:=.pointer (some ⟨w.heap.size,0,none⟩)) ?_ ?_ ?_
 ·simp [execOp,ho,Instr.alloc,h1,newVar,newRow]
 ·intro M' β' hk hβ
  exact ⟨z.cells,t,Zbd w _,rfl,by omega,fun k hk'=>(h4 k (by omega)).mono hk hβ⟩
 ·intro M'
  exact .ptr (L:=⟨w.heap.size,0,l.zero.length,1⟩) (off:=0) (Zbs _ _ _)
theorem Yjr (hr:RelS X base σ β w) (hn : β nm=none) {ρ:Operand→Value} {ρa:Operand→AVal} (hρ:∀ x,Rep w (MT X σ β) β (ρ x) (ρa x)) {o:Oper} {t:TypeId} {x:Operand} (ho:o.op = .box t x)
  (hc:(ρa x).cells.all AVal.isCell=true):OpOut P X base σ β w nm (execOp ρ o) (.ptr nm 0) (setS σ nm (.var (ρa x).cells)):=by
 obtain ⟨h1,h2,_⟩:=Zfp (hρ x) hc
 refine Zf2 hr hn (.var (ρa x).cells) (ρa x).cells.length 1 (obj:=.cells (ρ x).cells t) (w':={ w with heap:=w.heap.push (.cells (ρ x).cells t) }) rfl rfl rfl rfl (v:=.pointer (some ⟨w.heap.size,0,none⟩)) ?_ ?_ ?_
 ·simp [execOp,ho,Instr.box,newVar,newRow]
 ·intro M' β' hk hβ
  exact ⟨(ρ x).cells,t,Zbd w _,rfl,h1,fun k hk'=>(h2 k hk').mono hk hβ⟩
 ·intro M'
  exact .ptr (L:=⟨w.heap.size,0,(ρa x).cells.length,1⟩) (off:=0) (Zbs _ _ _)
theorem Zid (off:Nat):∀ (vs:List Value) (s:Nat) (c:Array Value),off+s+vs.length≤c.size →
  ((vs.zipIdx s).foldl (fun cs p=>cs.setIfInBounds (off+p.2) p.1) c).size=c.size ∧
  ∀ p,((vs.zipIdx s).foldl (fun cs p=>cs.setIfInBounds (off+p.2) p.1) c).getD p undef=if off+s≤p∧p<off+s+vs.length then vs.getD (p - (off+s)) undef else c.getD p undef
 | [],s,c,h=>⟨rfl,fun p=>by simp only [List.length_nil,Nat.add_zero];rw [if_neg (by omega)];rfl⟩
 | v :: vs,s,c,h=>by
  simp only [List.length_cons] at h
  obtain ⟨h1,h2⟩:=Zid off vs (s+1) (c.setIfInBounds (off+s) v) (by simp;omega)
  simp only [List.zipIdx_cons,List.foldl_cons]
  refine ⟨by rw [h1];simp,fun p=>?_⟩
  rw [h2 p]
  simp only [List.length_cons]
  by_cases e:p=off+s
  ·subst e
   rw [if_neg (by omega),if_pos (by omega)]
   rw [Array.getD_eq_getD_getElem?,Array.getElem?_setIfInBounds,if_pos rfl,if_pos (by omega)]
   simp
  ·by_cases e2:off+(s+1)≤p∧p<off+(s+1)+vs.length
   ·rw [if_pos e2,if_pos (by omega)]
    rw [show p - (off+s)=p - (off+(s+1))+1 by omega,List.getD_cons_succ]
   ·rw [if_neg e2,if_neg (by omega)]
    rw [Array.getD_eq_getD_getElem?,Array.getElem?_setIfInBounds,if_neg (by omega),← Array.getD_eq_getD_getElem?]
theorem Zke {ρ:Operand→Value} {ρa:Operand→AVal} (hρ:∀ x,Rep w M β (ρ x) (ρa x)) {e:Lay}:∀ (parts:List (Nat×Operand)) (k:Nat) (c:Array Value) (es:List AVal),
  rowA e ρa k parts=some es→(k+es.length)*e.sz≤c.size →
  ∃ c',Instr.fill (fun i=>some (i*e.sz,e.sz)) c (parts.map fun (i,x)=>(i,ρ x))=some c'∧c'.size=c.size∧(∀ i,i<es.length→(es.getD i .undef).cells.length=e.sz) ∧
   (∀ i j,i<es.length→j<e.sz→Rep w M β (c'.getD ((k+i)*e.sz+j) undef) ((es.getD i .undef).cells.getD j .undef))∧∀ p,p<k*e.sz→c'.getD p undef=c.getD p undef
 | [],k,c,es,h,_=>by
  simp only [rowA,Option.some.injEq] at h;subst h
  exact ⟨c,rfl,rfl,fun i hi=>by simp at hi,fun i j hi=>by simp at hi,fun _ _=>rfl⟩
 | (i,x) :: rest,k,c,es,h,hs=>by
  simp only [rowA] at h
  split at h
  ·rename_i hc
   obtain ⟨rfl,hc1,hc2,hc3⟩:=hc
   obtain ⟨es',h1,rfl⟩:=Option.map_eq_some_iff.1 h
   simp only [List.length_cons] at hs
   obtain ⟨hv1,hv2,_,_⟩:=Zfp (hρ x) hc3
   have e1:(i+(es'.length+1))*e.sz=i*e.sz+e.sz+es'.length*e.sz:=by rw [Nat.add_mul,Nat.add_mul,Nat.one_mul];omega
   obtain ⟨g1,g2⟩:=Zid (i*e.sz) (ρ x).cells.toList 0 c (by simp only [Nat.add_zero,Array.length_toList];omega)
   obtain ⟨c',h2,h3,h4,h5,h6⟩:=Zke hρ rest (i+1) _ es' h1 (by rw [g1];rw [show i+1+es'.length=i+(es'.length+1) by omega];exact hs)
   refine ⟨c',?_,h3.trans g1,?_,?_,?_⟩
   ·simp only [List.map_cons,Instr.fill]
    have hcond:¬ ((decide ((ρ x).cells.size≠e.sz)||decide (i*e.sz+(ρ x).cells.size > c.size))=true):=by simp only [Bool.or_eq_true,decide_eq_true_eq];omega
    rw [if_neg hcond,← h2,← Array.foldl_toList,Array.toList_zipIdx]
   ·intro j hj
    cases j with
    | zero=>exact hc1
    | succ j=>simp only [List.length_cons] at hj;simpa using h4 j (by omega)
   ·intro j q hj hq
    cases j with
    | zero =>
     have e2:(i+1)*e.sz=i*e.sz+e.sz:=by rw [Nat.add_mul,Nat.one_mul]
     rw [Nat.add_zero,h6 _ (by omega),g2,if_pos (by simp only [Nat.add_zero,Array.length_toList];omega)]
     have:=hv2 q (by omega)
     simp only [Nat.add_zero,List.getD_cons_zero]
     rwa [show i*e.sz+q - i*e.sz=q by omega,show (ρ x).cells.toList.getD q undef=(ρ x).cells.getD q undef by simp [List.getD,Array.getD_eq_getD_getElem?]]
    | succ j =>
     simp only [List.length_cons] at hj
     have:=h5 j q (by omega) hq
     rw [show i+1+j=i+(j+1) by omega] at this
     simpa using this
   ·intro p hp
    have e2:(i+1)*e.sz=i*e.sz+e.sz:=by rw [Nat.add_mul,Nat.one_mul]
    rw [h6 p (by omega),g2,if_neg (by omega)]
  ·cases h
theorem Zl5 (hr:RelS X base σ β w) (hn : β nm=none) {ρ:Operand→Value} {ρa:Operand→AVal} (hρ:∀ x,Rep w (MT X σ β) β (ρ x) (ρa x)) {o:Oper} {t:TypeId} {n:Nat} {parts:Array (Nat×Operand)}
  (ho:o.op = .buildSlice t n parts) {T:TyA} (hT:tyA P t=some T) {e:Lay} (he:T.elem=some e) {es:List AVal} (hes:rowA e ρa 0 parts.toList=some es) (hlen:es.length=n) (hk:T.kind = .slice)
  (hbig:n*e.sz≤16777216) (hsz : 0<e.sz):OpOut P X base σ β w nm (execOp ρ o) (.os nm 0 n e.sz) (setS σ nm (.row es 0)):=by
 obtain ⟨et,ht,hel⟩:=Zb7 hT hk
 rw [he] at hel
 obtain ⟨ti,_,_,hti,_,_,hs,_⟩:=Zao hel.symm
 obtain ⟨z,hz1,_,hz2,_⟩:=Zd0 (w:=w) (M:=MT X σ β) (β:=β) hel.symm
 obtain ⟨zc,hzc⟩:∃ zc:Array Value,zc=if n*e.sz=0 then #[] else z.cells:=⟨_,rfl⟩
 obtain ⟨c',h2,h3,h4,h5,_⟩:=Zke hρ parts.toList 0 ((Array.range (n*e.sz)).map (zc[· % zc.size]!)) es hes (by simp [hlen])
 refine Zf2 hr hn (.row es 0) n e.sz (obj:=.cells c' et) (w':={ w with heap:=w.heap.push (.cells c' et) }) rfl rfl rfl rfl (v:=.slice (some ⟨w.heap.size,0,none⟩) n n) ?_ ?_ ?_
 ·have hbig':¬ n*ti.size > 2 ^ 24:=by rw [hs];omega
  rw [← hs] at hzc h2
  simp only [execOp,ho,Instr.buildSlice,Sem.run_bind,run_underlying ht,Result.andThen_ok,Zb9 hti]
  rw [if_neg hbig',Sem.run_ite]
  by_cases h0:n*ti.size=0
  ·rw [if_pos h0] at hzc ⊢
   subst hzc
   simp only [Sem.run_bind,Sem.run_pure,Result.andThen_ok,Array.toList_map]
   rw [h2]
   simp [newRow]
  ·rw [if_neg h0] at hzc ⊢
   subst hzc
   simp only [Sem.run_bind,Sem.run_pure,Result.andThen_ok,Array.toList_map,hz1]
   rw [h2]
   simp [newRow]
 ·intro M' β' hkp hβ
  refine ⟨c',et,Zbd w _,?_,(by show es.length≤n;omega),h4,fun i j hi hj=>?_⟩
  ·simp only [Nat.zero_add];rw [h3];simp
  ·have:=h5 i j hi hj
   simp only [Nat.zero_add] at this ⊢
   exact this.mono hkp hβ
 ·intro M'
  have:=Rep.os (w:={ w with heap:=w.heap.push (.cells c' et) }) (M:=M') (β:=upd β nm ⟨w.heap.size,0,n,e.sz⟩) (b:=nm) (off:=0) (len:=n) (cap:=n) (L:=⟨w.heap.size,0,n,e.sz⟩) (Zbs _ _ _) (Nat.le_refl _) (by simp)
  simpa using this
end
end Go.Abs
