/- Part 28 of my own framework and of the walks of functions: AcsC. -/
import Derived.Test.YtfjbdamcmiglgaaGreatOwn27
set_option linter.unusedVariables false
set_option linter.unusedSectionVars false
set_option linter.unusedSimpArgs false
namespace Go.c8
open Go
def pq (Q:cb→St→Prop) (tm:List ae) (σ:ai):gq→Prop
 | .ready=>Q .normal ⟨tm,σ⟩
 | .done .ret=>Q .ret ⟨tm,σ⟩
 | .done (.exit id)=>Q (.exit id) ⟨tm,σ⟩
 | .done (.goto l)=>Q (.goto l) ⟨tm,σ⟩
 | _=>False
def vY (Q:cb→St→Prop) (tm:List ae) (ρ:gQ) (n:Nat) (_:ae) (σ:ai):Prop :=
 ∃ s,bH σ n=some (.loop (ρ.at s))∧pq Q tm (σ.set n none) s
section
variable {P:Program} {lo:Ctx} {st:St} {Q:cb→St→Prop}
theorem Zh1 {w:World} {l:Nat} {r:Loop} (h:w.heap[l]? = some (.loop r)) (fn:FuncId) (tmps:Array Value) (ps:Array Tmp) (assign body:Code) :
  (Instr.enterLoop fn tmps ps assign body (some l)).run P w = .ok (w.heap.size,[]) (w.alloc (.loop { state:=.ready,pending:=none,fn,tmps,params:=ps,assign,body,defers:=r.defers })):=by
 unfold Instr.enterLoop
 simp only [Sem.run_bind,run_getLoop h,run_newObj_alloc,Result.andThen,Sem.run_pure]
theorem Bu (σ:ai) (x:bE):b_ σ σ.length x = σ++[some x]:=by simp [b_]
theorem ZX {X:Nat→Nat→Prop} {base:Nat} {σ:ai} {β:Env} {w:World} (hr:cH X base σ β w) (o:Obj):cH X base σ β (w.alloc o)∧Ext 0 σ β w σ β (w.alloc o):=by
 have hh:∀ g,g<w.heap.size→(w.alloc o).heap[g]? = w.heap[g]?:=fun g hg=>by
  show (w.heap.push o)[g]? = _
  rw [fL,if_neg (by omega)]
 have hs:w.heap.size≤(w.alloc o).heap.size:=by rw [World.size_alloc];omega
 obtain ⟨k1,k2⟩:=hr.kept hs hh
 exact ⟨k1,rfl,rfl,rfl,hs,fun g o' v hc _=>by rw [World.cell?_of_block (w:=w) (a:=⟨g,o',none⟩) (hh g (xT hc))];exact hc,fun g hg _=>hh g hg,fun g o' h=>.inl h,fun _ _=>rfl⟩
theorem Vp {X:Nat→Nat→Prop} {base:Nat} {σ:ai} {β:Env} {w:World} (hr:cH X base σ β w) (ρ:gQ) {tmps:Array Value} (fn:FuncId) (dr:Nat) (hn:tmps.size = ρ.tm.length) (ht:∀ k,k < ρ.tm.length→bS w (MT X σ β) β (tmps.getD k undef) (ρ.tm.getD k .undef)) :
  cH X base (σ++[some (.loop (ρ.at .ready))]) (pw β σ.length ⟨w.heap.size,0,0,0⟩) (w.alloc (.loop { state:=.ready,pending:=none,fn,tmps,params:=ρ.params,assign:=ρ.assign,body:=ρ.body,defers:=dr })) ∧
   Ext 0 σ β w (σ++[some (.loop (ρ.at .ready))]) (pw β σ.length ⟨w.heap.size,0,0,0⟩) (w.alloc (.loop { state:=.ready,pending:=none,fn,tmps,params:=ρ.params,assign:=ρ.assign,body:=ρ.body,defers:=dr })) ∧
   ∀ b L,β b=some L→pw β σ.length ⟨w.heap.size,0,0,0⟩ b=some L:=by
 obtain ⟨k1,k2,k3,k4⟩:=O4 hr (hr.nO σ.length (ah _)) (w':=w.alloc (.loop { state:=.ready,pending:=none,fn,tmps,params:=ρ.params,assign:=ρ.assign,body:=ρ.body,defers:=dr })) (.loop (ρ.at .ready)) 0 0 (obj:=.loop { state:=.ready,pending:=none,fn,tmps,params:=ρ.params,assign:=ρ.assign,body:=ρ.body,defers:=dr }) rfl rfl rfl rfl
 rw [Bu] at k1 k2 k4
 exact ⟨k4 ⟨tmps,dr,fn,World.alloc_heap_new _ _,hn,fun k hk=>(ht k hk).mono k2 k3⟩,k1,k3⟩
theorem Zzf {X:Nat→Nat→Prop} {base mb:Nat} {D:List Deferred} {β:Env} {a:Act} {w:World} {b:Frame} (h3:Rel X base mb D st β a w) (nr:lo.ok β b) (EO:mb≤w.heap.size) (ρ:gQ) (hL:l9 ρ.tm st.tm) (fE:∀ b0,lo.ro=some b0→∃ r,bH st.σ b0=some (.loop r)) :
  ∃ (l:Nat) (mark:List Deferred) (w1:World),(Instr.enterLoop b.fn a.tmps ρ.params ρ.assign ρ.body b.roundOf).run P w = .ok (l,mark) w1 ∧
   cH X base (st.σ++[some (.loop (ρ.at .ready))]) (pw β st.σ.length ⟨l,0,0,0⟩) w1∧Ext 0 st.σ β w (st.σ++[some (.loop (ρ.at .ready))]) (pw β st.σ.length ⟨l,0,0,0⟩) w1∧(∀ b L,β b=some L→pw β st.σ.length ⟨l,0,0,0⟩ b=some L) ∧
   w.heap.size≤l∧Marks mb D w1 (mark++a.defers):=by
 obtain ⟨hLn,hLt⟩:=Fx hL
 have rj:∀ k,k < ρ.tm.length→bS w (MT X st.σ β) β (a.tmps.getD k undef) (ρ.tm.getD k .undef):=fun j hj=>by
  rcases hLt j hj with e | e
  ·rw [e];exact .undef _
  ·rw [e];exact h3.t j (by omega)
 have fH:a.tmps.size = ρ.tm.length:=by rw [h3.n,hLn]
 unfold Ctx.ok at nr
 cases hr:lo.ro with
 | none =>
  rw [hr] at nr
  simp only at nr
  rw [nr]
  obtain ⟨q1,q2⟩:=ZX h3.s (.deferred (some []))
  obtain ⟨k1,k2,k3⟩:=Vp q1 ρ (tmps:=a.tmps) b.fn w.heap.size fH (fun k hk=>(rj k hk).mono (q2.keeps h3.s) (fun _ _ h=>h))
  refine ⟨w.heap.size+1,_,_,run_enterLoop_outer _ _ _ _ _,?_,?_,?_,by omega,?_⟩
  ·rw [World.size_alloc] at k1;exact k1
  ·rw [World.size_alloc] at k2;exact q2.trans k2
  ·rw [World.size_alloc] at k3;exact k3
  ·have hd:=h3.d.ext h3.s (q2.trans k2)
   obtain ⟨rs,m1,m2,m3⟩:=hd
   obtain ⟨W1,n1,n2,n3⟩:=h3.d
   have hrs:rs=W1:=by
    have:rs.map (fun r=>({ target:=.collected r,args:=#[] }:Deferred))++D=W1.map (fun r=>({ target:=.collected r,args:=#[] }:Deferred))++D:=by rw [← m1,← n1]
    have:=List.append_cancel_right this
    exact (List.map_inj_right (fun x y h=>by simpa using h)).1 this
   refine ⟨w.heap.size :: rs,by rw [m1];rfl,eY.2 ⟨fun hm=>?_,m2⟩,fun r qA=>?_⟩
   ·rw [hrs] at hm
    have:=(aL.1 (n3 _ hm).2).1
    omega
   ·rcases aR.1 qA with e | e
    ·subst e
     refine ⟨EO,?_⟩
     show (((w.heap.push (.deferred (some []))).push _)[w.heap.size]? : Option Obj) = _
     rw [fL,if_neg (by simp),fL,if_pos rfl]
    ·exact m3 r e
 | some b0 =>
  rw [hr] at nr
  obtain ⟨xE,L0,zu,JI⟩:=nr
  obtain ⟨r0,JF⟩:=fE b0 hr
  rw [JI]
  obtain ⟨L',q1,q2,q3,W4,dr',fn',q4,_⟩:=h3.s.cg b0 _ (j_ JF)
  obtain rfl:=aN (zu.symm.trans q1)
  obtain ⟨k1,k2,k3⟩:=Vp h3.s ρ (tmps:=a.tmps) b.fn dr' fH rj
  exact ⟨w.heap.size,[],_,Zh1 q4 _ _ _ _ _,k1,k2,k3,ah _,h3.d.ext h3.s k2⟩
theorem iw.rangeFunc {f:Operand} {ps:Array Tmp} {assign body:Code} (zM:List ae) (hL:l9 zM st.tm) (fE:∀ b0,lo.ro=some b0→∃ r,bH st.σ b0=some (.loop r))
  (h:∀ ρ:gQ,ρ.tm=zM→ρ.params=ps→ρ.assign=assign→ρ.body=body→aq P (ev st.tm f) [.lz st.σ.length] (st.σ++[some (.loop (ρ.at .ready))]) (vY Q st.tm ρ st.σ.length)) :
  iw P lo (.rangeFunc f ps assign body) st Q:=by
 intro X base mb D β a w b k cs h1 h2 h3 nr
 let ρ:gQ:=⟨zM,ps,assign,body, .ready⟩
 obtain ⟨l,mark,w1,e1,e2,e3,e4,e5,e6⟩:=Zzf (P:=P) h3 nr h2 ρ hL fE
 have WU:pw β st.σ.length ⟨l,0,0,0⟩ st.σ.length=some ⟨l,0,0,0⟩:=tW _ _ _
 generalize vR:pw β st.σ.length ⟨l,0,0,0⟩ = eX at *
 have vK:=e3.keeps h3.s
 obtain ⟨r,iZ,mV,v,w2,⟨s,q1,q2⟩,g1,g2,g3,g4,f1,Ax,w0,g5,g6⟩:=h ρ rfl rfl rfl rfl X base eX w1 (a.eval f) #[.func (.yield l) #[] #[]] e2 ((vn h3 f).mono vK e4) rfl (fun j hj=>by
  have rO:j=0:=by simpa using hj
  subst rO
  exact bS.lz (L:=⟨l,0,0,0⟩) WU) (b.atR { a with defers:=mark++a.defers } (.inRangeFunc l :: k)) cs (fun d b' s a' k' e=>by simp [Frame.atR] at e)
 have WG:(st.σ++[some (bE.loop (ρ.at .ready))]).length=st.σ.length+1:=by simp
 have Gl : mV st.σ.length=some ⟨l,0,0,0⟩:=(g3.env _ (by omega)).trans WU
 have zw:=j_ q1
 obtain ⟨q,x1,x2,x3,x4,x5,x6,x7,x8,_⟩:=H7 (s':=.ready) g1 zw Gl
 have NB:q.state≠.busy:=by
  rw [x2]
  cases s with
  | busy=>exact q2.elim
  | ready=>simp [gq.of]
  | done c=>simp [gq.of]
 have hend:=run_endLoop (P:=P) x1 NB
 have hle:xI (iZ.set st.σ.length none) iZ:=fun c x hx=>by
  by_cases e:st.σ.length=c
  ·subst e
   have bG:st.σ.length < iZ.length:=by omega
   simp [bG] at hx
  ·rw [bM e] at hx;exact hx
 have GY:=g1.less hle (by simp)
 obtain ⟨k1,k2⟩:=GY.aside (l:=l) (q':={ q with state:=.exhausted }) x1 (fun c cg L hc CY e=>by
  have ep:c≠st.σ.length:=fun e'=>by
   subst e'
   have bG:st.σ.length < iZ.length:=by omega
   simp [bG] at hc
  exact ep (g1.inj c st.σ.length cg _ L _ (hle c cg hc) zw CY Gl e)) (fun o hx=>by have:=h3.s.qd l o hx;omega)
 generalize DC:w2.putObj l (.loop { q with state:=.exhausted })=w3 at *
 have nQ:∀ g o,ja (iZ.set st.σ.length none) mV g o→ja iZ mV g o:=fun g o ⟨c,cg,L,m1,m2,m3,m4⟩=>⟨c,cg,L,hle c cg m1,m2,m3,m4⟩
 have Wy:∀ g,g≠l→w3.heap[g]? = w2.heap[g]?:=fun g hg=>by rw [← DC];exact World.putObj_heap_other hg
 have BK:Ext lo.n iZ mV w2 (iZ.set st.σ.length none) mV w3:=by
  refine ⟨by rw [← DC];rfl,by rw [← DC];rfl,by rw [← DC];rfl,by rw [← DC,World.putObj_size];exact ah _,fun g o v hc _=>?_,fun g hg hn=>Wy g fun e=>hn 0 ⟨st.σ.length,_,_,zw,Gl,e.symm,trivial⟩,fun g o hm=>.inl (nQ g o hm),fun _ _=>rfl⟩
  have ep:g≠l:=fun e=>by rw [e] at hc;exact HS x1 hc
  rw [World.cell?_of_block (w:=w2) (a:=⟨g,o,none⟩) (Wy g ep)];exact hc
 have GH:Ext lo.n st.σ β w (st.σ++[some (.loop (ρ.at .ready))]) eX w1:=⟨e3.os,e3.tape,e3.output,e3.size,e3.cell,e3.block,e3.iL,fun c hc=>by rw [← vR];exact Cn _ _ _ (by omega)⟩
 have hE:=(GH.trans (g3.lower (by omega))).trans BK
 have hkE:di w (MT X st.σ β) w3 (MT X (iZ.set st.σ.length none) mV):=hE.keeps h3.s
 have Hk:∀ c L,β c=some L→mV c=some L:=fun c L hc=>by
  have bG:c<st.σ.length:=jJ fun hle=>by rw [h3.s.nO c hle] at hc;cases hc
  rw [g3.env c (by omega)];exact e4 c L hc
 have hrel:Rel X base mb D ⟨st.tm,iZ.set st.σ.length none⟩ mV { a with defers:=mark++a.defers } w3:=by
  refine ⟨k1,h3.n,fun j hj=>(h3.t j hj).mono hkE Hk,?_⟩
  have:=(e6.ext e2 g3)
  exact this.ext g1 BK
 have iE:Steps P (lone (b.atR a (.code (.rangeFunc f ps assign body) :: k)) cs w) (lone (b.atR { a with defers:=mark++a.defers } ((q.pending.map Item.code).toList++k)) cs w3):=by
  refine .head (step_lone_go ?_) (g6.trans ?_)
  ·rw [← g5]
   have hev:Frame.eval (b.atR { tmps:=a.tmps,defers:=mark++a.defers } (.inRangeFunc l :: k))=a.eval:=Frame.eval_atR b { a with defers:=mark++a.defers } (.inRangeFunc l :: k)
   have hs:(do let d ← resolve a.eval (rangeCall f l) 0;invoke d.target d.args:Sem Next)=(do let d ← Deferred.ofValue (a.eval f) #[.func (.yield l) #[] #[]];invoke d.target d.args):=by
    simp [resolve,rangeCall,Act.eval]
   rw [← hs,← hev]
   have e1':(Instr.enterLoop b.fn a.tmps ps assign body b.roundOf).run P w = .ok (l,mark) w1:=e1
   simp [stepG,stepG.exec,Frame.atR,Sem.runT_eq,e1',GStep.bare_after]
  ·rw [finish_atR_inRangeFunc]
   exact .one (stepR_endRangeFunc hend)
 have AP:lo.n≤(iZ.set st.σ.length none).length:=by rw [bg];omega
 have G8:q.pending=s.of.2:=x3
 rw [G8] at iE
 cases s with
 | busy=>exact q2.elim
 | ready=>exact ⟨.normal,_,mV,_,w3,q2,AP,hrel,hE,iE⟩
 | done c =>
  cases c with
  | ret=>exact ⟨.ret,_,mV,_,w3,q2,AP,hrel,hE,k,iE⟩
  | exit id=>exact ⟨.exit id,_,mV,_,w3,q2,AP,hrel,hE,k,rfl,iE⟩
  | goto l=>exact ⟨.goto l,_,mV,_,w3,q2,AP,hrel,hE,k,rfl,iE⟩
  | _=>exact q2.elim
end
end Go.c8
