/- Part 28 of my own framework and of the walks of functions: AcsC. -/
import Derived.Test.YtfjbdamcmiglgaaGreatOwn27
set_option linter.unusedVariables false
set_option linter.unusedSectionVars false
set_option linter.unusedSimpArgs false
namespace Go.cV
open Go
def oY (Q:cb→St→Prop) (tm:List ae) (σ:ai):fS→Prop
 | .ready=>Q .normal ⟨tm,σ⟩
 | .done .ret=>Q .ret ⟨tm,σ⟩
 | .done (.exit id)=>Q (.exit id) ⟨tm,σ⟩
 | .done (.goto l)=>Q (.goto l) ⟨tm,σ⟩
 | _=>False
def vO (Q:cb→St→Prop) (tm:List ae) (ρ:gD) (n:Nat) (_:ae) (σ:ai):Prop :=
 ∃ s,bF σ n=some (.loop (ρ.at s))∧oY Q tm (σ.set n none) s
section
variable {P:Program} {lo:Ctx} {st:St} {Q:cb→St→Prop}
theorem Zgl {w:World} {l:Nat} {r:Loop} (h:w.heap[l]? = some (.loop r)) (fn:FuncId) (tmps:Array Value) (ps:Array Tmp) (assign body:Code) :
  (Instr.enterLoop fn tmps ps assign body (some l)).run P w = .ok (w.heap.size,[]) (w.alloc (.loop { state:=.ready,pending:=none,fn,tmps,params:=ps,assign,body,defers:=r.defers })):=by
 unfold Instr.enterLoop
 simp only [Sem.run_bind,run_getLoop h,run_newObj_alloc,Result.andThen,Sem.run_pure]
theorem Bf (σ:ai) (x:bE):b_ σ σ.length x = σ++[some x]:=by simp [b_]
theorem Ze {X:Nat→Nat→Prop} {base:Nat} {σ:ai} {β:Env} {w:World} (hr:cF X base σ β w) (o:Obj):cF X base σ β (w.alloc o)∧Ext 0 σ β w σ β (w.alloc o):=by
 have hh:∀ g,g<w.heap.size→(w.alloc o).heap[g]? = w.heap[g]?:=fun g hg=>by
  show (w.heap.push o)[g]? = _
  rw [fv,if_neg (by omega)]
 have hs:w.heap.size≤(w.alloc o).heap.size:=by rw [World.size_alloc];omega
 obtain ⟨k1,k2⟩:=hr.kept hs hh
 exact ⟨k1,rfl,rfl,rfl,hs,fun g o' v hc _=>by rw [World.cell?_of_block (w:=w) (a:=⟨g,o',none⟩) (hh g (xI hc))];exact hc,fun g hg _=>hh g hg,fun g o' h=>.inl h,fun _ _=>rfl⟩
theorem Ua {X:Nat→Nat→Prop} {base:Nat} {σ:ai} {β:Env} {w:World} (hr:cF X base σ β w) (ρ:gD) {tmps:Array Value} (fn:FuncId) (dr:Nat) (hn:tmps.size = ρ.tm.length) (ht:∀ k,k < ρ.tm.length→bR w (MT X σ β) β (tmps.getD k undef) (ρ.tm.getD k .undef)) :
  cF X base (σ++[some (.loop (ρ.at .ready))]) (o7 β σ.length ⟨w.heap.size,0,0,0⟩) (w.alloc (.loop { state:=.ready,pending:=none,fn,tmps,params:=ρ.params,assign:=ρ.assign,body:=ρ.body,defers:=dr })) ∧
   Ext 0 σ β w (σ++[some (.loop (ρ.at .ready))]) (o7 β σ.length ⟨w.heap.size,0,0,0⟩) (w.alloc (.loop { state:=.ready,pending:=none,fn,tmps,params:=ρ.params,assign:=ρ.assign,body:=ρ.body,defers:=dr })) ∧
   ∀ b L,β b=some L→o7 β σ.length ⟨w.heap.size,0,0,0⟩ b=some L:=by
 obtain ⟨k1,k2,k3,k4⟩:=Pc hr (hr.nC σ.length (ah _)) (w':=w.alloc (.loop { state:=.ready,pending:=none,fn,tmps,params:=ρ.params,assign:=ρ.assign,body:=ρ.body,defers:=dr })) (.loop (ρ.at .ready)) 0 0 (obj:=.loop { state:=.ready,pending:=none,fn,tmps,params:=ρ.params,assign:=ρ.assign,body:=ρ.body,defers:=dr }) rfl rfl rfl rfl
 rw [Bf] at k1 k2 k4
 exact ⟨k4 ⟨tmps,dr,fn,World.alloc_heap_new _ _,hn,fun k hk=>(ht k hk).mono k2 k3⟩,k1,k3⟩
theorem WE {X:Nat→Nat→Prop} {base mb:Nat} {D:List Deferred} {β:Env} {a:Act} {w:World} {b:Frame} (h3:Rel X base mb D st β a w) (m9:lo.ok β b) (EA:mb≤w.heap.size) (ρ:gD) (hL:lT ρ.tm st.tm) (fh:∀ b0,lo.ro=some b0→∃ r,bF st.σ b0=some (.loop r)) :
  ∃ (l:Nat) (mark:List Deferred) (w1:World),(Instr.enterLoop b.fn a.tmps ρ.params ρ.assign ρ.body b.roundOf).run P w = .ok (l,mark) w1 ∧
   cF X base (st.σ++[some (.loop (ρ.at .ready))]) (o7 β st.σ.length ⟨l,0,0,0⟩) w1∧Ext 0 st.σ β w (st.σ++[some (.loop (ρ.at .ready))]) (o7 β st.σ.length ⟨l,0,0,0⟩) w1∧(∀ b L,β b=some L→o7 β st.σ.length ⟨l,0,0,0⟩ b=some L) ∧
   w.heap.size≤l∧Marks mb D w1 (mark++a.defers):=by
 obtain ⟨hLn,hLt⟩:=E4 hL
 have qY:∀ k,k < ρ.tm.length→bR w (MT X st.σ β) β (a.tmps.getD k undef) (ρ.tm.getD k .undef):=fun j hj=>by
  rcases hLt j hj with e | e
  ·rw [e];exact .undef _
  ·rw [e];exact h3.t j (by omega)
 have ft:a.tmps.size = ρ.tm.length:=by rw [h3.n,hLn]
 unfold Ctx.ok at m9
 cases hr:lo.ro with
 | none =>
  rw [hr] at m9
  simp only at m9
  rw [m9]
  obtain ⟨q1,q2⟩:=Ze h3.s (.deferred (some []))
  obtain ⟨k1,k2,k3⟩:=Ua q1 ρ (tmps:=a.tmps) b.fn w.heap.size ft (fun k hk=>(qY k hk).mono (q2.keeps h3.s) (fun _ _ h=>h))
  refine ⟨w.heap.size+1,_,_,run_enterLoop_outer _ _ _ _ _,?_,?_,?_,by omega,?_⟩
  ·rw [World.size_alloc] at k1;exact k1
  ·rw [World.size_alloc] at k2;exact q2.trans k2
  ·rw [World.size_alloc] at k3;exact k3
  ·have hd:=h3.d.ext h3.s (q2.trans k2)
   obtain ⟨rs,m1,m2,m3⟩:=hd
   obtain ⟨VT,n1,n2,n3⟩:=h3.d
   have hrs:rs=VT:=by
    have:rs.map (fun r=>({ target:=.collected r,args:=#[] }:Deferred))++D=VT.map (fun r=>({ target:=.collected r,args:=#[] }:Deferred))++D:=by rw [← m1,← n1]
    have:=List.append_cancel_right this
    exact (List.map_inj_right (fun x y h=>by simpa using h)).1 this
   refine ⟨w.heap.size :: rs,by rw [m1];rfl,eh.2 ⟨fun hm=>?_,m2⟩,fun r qq=>?_⟩
   ·rw [hrs] at hm
    have:=(aL.1 (n3 _ hm).2).1
    omega
   ·rcases aP.1 qq with e | e
    ·subst e
     refine ⟨EA,?_⟩
     show (((w.heap.push (.deferred (some []))).push _)[w.heap.size]? : Option Obj) = _
     rw [fv,if_neg (by simp),fv,if_pos rfl]
    ·exact m3 r e
 | some b0 =>
  rw [hr] at m9
  obtain ⟨xr,L0,zh,Jh⟩:=m9
  obtain ⟨r0,Je⟩:=fh b0 hr
  rw [Jh]
  obtain ⟨L',q1,q2,q3,VX,dr',fn',q4,_⟩:=h3.s.cf b0 _ (jU Je)
  obtain rfl:=aM (zh.symm.trans q1)
  obtain ⟨k1,k2,k3⟩:=Ua h3.s ρ (tmps:=a.tmps) b.fn dr' ft qY
  exact ⟨w.heap.size,[],_,Zgl q4 _ _ _ _ _,k1,k2,k3,ah _,h3.d.ext h3.s k2⟩
theorem ic.rangeFunc {f:Operand} {ps:Array Tmp} {assign body:Code} (zz:List ae) (hL:lT zz st.tm) (fh:∀ b0,lo.ro=some b0→∃ r,bF st.σ b0=some (.loop r))
  (h:∀ ρ:gD,ρ.tm=zz→ρ.params=ps→ρ.assign=assign→ρ.body=body→aq P (ev st.tm f) [.ld st.σ.length] (st.σ++[some (.loop (ρ.at .ready))]) (vO Q st.tm ρ st.σ.length)) :
  ic P lo (.rangeFunc f ps assign body) st Q:=by
 intro X base mb D β a w b k cs h1 h2 h3 m9
 let ρ:gD:=⟨zz,ps,assign,body, .ready⟩
 obtain ⟨l,mark,w1,e1,e2,e3,e4,e5,e6⟩:=WE (P:=P) h3 m9 h2 ρ hL fh
 have GR:o7 β st.σ.length ⟨l,0,0,0⟩ st.σ.length=some ⟨l,0,0,0⟩:=tI _ _ _
 generalize vG:o7 β st.σ.length ⟨l,0,0,0⟩ = eS at *
 have vz:=e3.keeps h3.s
 obtain ⟨r,iO,mI,v,w2,⟨s,q1,q2⟩,g1,g2,g3,g4,f1,Ag,w0,g5,g6⟩:=h ρ rfl rfl rfl rfl X base eS w1 (a.eval f) #[.func (.yield l) #[] #[]] e2 ((va h3 f).mono vz e4) rfl (fun j hj=>by
  have rF:j=0:=by simpa using hj
  subst rF
  exact bR.ld (L:=⟨l,0,0,0⟩) GR) (b.atR { a with defers:=mark++a.defers } (.inRangeFunc l :: k)) cs (fun d b' s a' k' e=>by simp [Frame.atR] at e)
 have Vz:(st.σ++[some (bE.loop (ρ.at .ready))]).length=st.σ.length+1:=by simp
 have F0 : mI st.σ.length=some ⟨l,0,0,0⟩:=(g3.env _ (by omega)).trans GR
 have zj:=jU q1
 obtain ⟨q,x1,x2,x3,x4,x5,x6,x7,x8,_⟩:=HY (s':=.ready) g1 zj F0
 have Nb:q.state≠.busy:=by
  rw [x2]
  cases s with
  | busy=>exact q2.elim
  | ready=>simp [fS.of]
  | done c=>simp [fS.of]
 have hend:=run_endLoop (P:=P) x1 Nb
 have hle:xx (iO.set st.σ.length none) iO:=fun c x hx=>by
  by_cases e:st.σ.length=c
  ·subst e
   have bD:st.σ.length < iO.length:=by omega
   simp [bD] at hx
  ·rw [bK e] at hx;exact hx
 have Gv:=g1.less hle (by simp)
 obtain ⟨k1,k2⟩:=Gv.aside (l:=l) (q':={ q with state:=.exhausted }) x1 (fun c cf L hc CO e=>by
  have dX:c≠st.σ.length:=fun e'=>by
   subst e'
   have bD:st.σ.length < iO.length:=by omega
   simp [bD] at hc
  exact dX (g1.inj c st.σ.length cf _ L _ (hle c cf hc) zj CO F0 e)) (fun o hx=>by have:=h3.s.p6 l o hx;omega)
 generalize Dp:w2.putObj l (.loop { q with state:=.exhausted })=w3 at *
 have nE:∀ g o,iQ (iO.set st.σ.length none) mI g o→iQ iO mI g o:=fun g o ⟨c,cf,L,m1,m2,m3,m4⟩=>⟨c,cf,L,hle c cf m1,m2,m3,m4⟩
 have Vr:∀ g,g≠l→w3.heap[g]? = w2.heap[g]?:=fun g hg=>by rw [← Dp];exact World.putObj_heap_other hg
 have Bv:Ext lo.n iO mI w2 (iO.set st.σ.length none) mI w3:=by
  refine ⟨by rw [← Dp];rfl,by rw [← Dp];rfl,by rw [← Dp];rfl,by rw [← Dp,World.putObj_size];exact ah _,fun g o v hc _=>?_,fun g hg hn=>Vr g fun e=>hn 0 ⟨st.σ.length,_,_,zj,F0,e.symm,trivial⟩,fun g o hm=>.inl (nE g o hm),fun _ _=>rfl⟩
  have dX:g≠l:=fun e=>by rw [e] at hc;exact Hs x1 hc
  rw [World.cell?_of_block (w:=w2) (a:=⟨g,o,none⟩) (Vr g dX)];exact hc
 have Gg:Ext lo.n st.σ β w (st.σ++[some (.loop (ρ.at .ready))]) eS w1:=⟨e3.os,e3.tape,e3.output,e3.size,e3.cell,e3.block,e3.iC,fun c hc=>by rw [← vG];exact Cg _ _ _ (by omega)⟩
 have hE:=(Gg.trans (g3.lower (by omega))).trans Bv
 have hkE:dg w (MT X st.σ β) w3 (MT X (iO.set st.σ.length none) mI):=hE.keeps h3.s
 have GZ:∀ c L,β c=some L→mI c=some L:=fun c L hc=>by
  have bD:c<st.σ.length:=jv fun hle=>by rw [h3.s.nC c hle] at hc;cases hc
  rw [g3.env c (by omega)];exact e4 c L hc
 have hrel:Rel X base mb D ⟨st.tm,iO.set st.σ.length none⟩ mI { a with defers:=mark++a.defers } w3:=by
  refine ⟨k1,h3.n,fun j hj=>(h3.t j hj).mono hkE GZ,?_⟩
  have:=(e6.ext e2 g3)
  exact this.ext g1 Bv
 have iu:Steps P (lone (b.atR a (.code (.rangeFunc f ps assign body) :: k)) cs w) (lone (b.atR { a with defers:=mark++a.defers } ((q.pending.map Item.code).toList++k)) cs w3):=by
  refine .head (step_lone_go ?_) (g6.trans ?_)
  ·rw [← g5]
   have hev:Frame.eval (b.atR { tmps:=a.tmps,defers:=mark++a.defers } (.inRangeFunc l :: k))=a.eval:=Frame.eval_atR b { a with defers:=mark++a.defers } (.inRangeFunc l :: k)
   have hs:(do let d ← resolve a.eval (rangeCall f l) 0;invoke d.target d.args:Sem Next)=(do let d ← Deferred.ofValue (a.eval f) #[.func (.yield l) #[] #[]];invoke d.target d.args):=by
    simp [resolve,rangeCall,Act.eval]
   rw [← hs,← hev]
   have e1':(Instr.enterLoop b.fn a.tmps ps assign body b.roundOf).run P w = .ok (l,mark) w1:=e1
   simp [stepG,stepG.exec,Frame.atR,Sem.runT_eq,e1',GStep.bare_after]
  ·rw [finish_atR_inRangeFunc]
   exact .one (stepR_endRangeFunc hend)
 have Ay:lo.n≤(iO.set st.σ.length none).length:=by rw [bh];omega
 have GI:q.pending=s.of.2:=x3
 rw [GI] at iu
 cases s with
 | busy=>exact q2.elim
 | ready=>exact ⟨.normal,_,mI,_,w3,q2,Ay,hrel,hE,iu⟩
 | done c =>
  cases c with
  | ret=>exact ⟨.ret,_,mI,_,w3,q2,Ay,hrel,hE,k,iu⟩
  | exit id=>exact ⟨.exit id,_,mI,_,w3,q2,Ay,hrel,hE,k,rfl,iu⟩
  | goto l=>exact ⟨.goto l,_,mI,_,w3,q2,Ay,hrel,hE,k,rfl,iu⟩
  | _=>exact q2.elim
end
end Go.cV
