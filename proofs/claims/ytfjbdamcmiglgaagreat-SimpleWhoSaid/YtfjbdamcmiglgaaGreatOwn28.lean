/- Part 28 of my own framework and of the walks of functions: AcsC. -/
import Derived.Test.YtfjbdamcmiglgaaGreatOwn27
set_option linter.unusedVariables false
set_option linter.unusedSectionVars false
set_option linter.unusedSimpArgs false
namespace Go.c8
open Go
def oX (Q:b9→St→Prop) (tm:List ae) (σ:ai):fS→Prop
 | .ready=>Q .normal ⟨tm,σ⟩
 | .done .ret=>Q .ret ⟨tm,σ⟩
 | .done (.exit id)=>Q (.exit id) ⟨tm,σ⟩
 | .done (.goto l)=>Q (.goto l) ⟨tm,σ⟩
 | _=>False
def vG (Q:b9→St→Prop) (tm:List ae) (ρ:gF) (n:Nat) (_:ae) (σ:ai):Prop :=
 ∃ s,bG σ n=some (.loop (ρ.at s))∧oX Q tm (σ.set n none) s
section
variable {P:Program} {lo:Ctx} {st:St} {Q:b9→St→Prop}
theorem Zgq {w:World} {l:Nat} {r:Loop} (h:w.heap[l]? = some (.loop r)) (fn:FuncId) (tmps:Array Value) (ps:Array Tmp) (assign body:Code) :
  (Instr.enterLoop fn tmps ps assign body (some l)).run P w = .ok (w.heap.size,[]) (w.alloc (.loop { state:=.ready,pending:=none,fn,tmps,params:=ps,assign,body,defers:=r.defers })):=by
 unfold Instr.enterLoop
 simp only [Sem.run_bind,run_getLoop h,run_newObj_alloc,Result.andThen,Sem.run_pure]
theorem Ba (σ:ai) (x:bE):bZ σ σ.length x = σ++[some x]:=by simp [bZ]
theorem WX {X:Nat→Nat→Prop} {base:Nat} {σ:ai} {β:Env} {w:World} (hr:cC X base σ β w) (o:Obj):cC X base σ β (w.alloc o)∧Ext 0 σ β w σ β (w.alloc o):=by
 have hh:∀ g,g<w.heap.size→(w.alloc o).heap[g]? = w.heap[g]?:=fun g hg=>by
  show (w.heap.push o)[g]? = _
  rw [fv,if_neg (by omega)]
 have hs:w.heap.size≤(w.alloc o).heap.size:=by rw [World.size_alloc];omega
 obtain ⟨k1,k2⟩:=hr.kept hs hh
 exact ⟨k1,rfl,rfl,rfl,hs,fun g o' v hc _=>by rw [World.cell?_of_block (w:=w) (a:=⟨g,o',none⟩) (hh g (xC hc))];exact hc,fun g hg _=>hh g hg,fun g o' h=>.inl h,fun _ _=>rfl⟩
theorem Ty {X:Nat→Nat→Prop} {base:Nat} {σ:ai} {β:Env} {w:World} (hr:cC X base σ β w) (ρ:gF) {tmps:Array Value} (fn:FuncId) (dr:Nat) (hn:tmps.size = ρ.tm.length) (ht:∀ k,k < ρ.tm.length→bR w (MT X σ β) β (tmps.getD k undef) (ρ.tm.getD k .undef)) :
  cC X base (σ++[some (.loop (ρ.at .ready))]) (oZ β σ.length ⟨w.heap.size,0,0,0⟩) (w.alloc (.loop { state:=.ready,pending:=none,fn,tmps,params:=ρ.params,assign:=ρ.assign,body:=ρ.body,defers:=dr })) ∧
   Ext 0 σ β w (σ++[some (.loop (ρ.at .ready))]) (oZ β σ.length ⟨w.heap.size,0,0,0⟩) (w.alloc (.loop { state:=.ready,pending:=none,fn,tmps,params:=ρ.params,assign:=ρ.assign,body:=ρ.body,defers:=dr })) ∧
   ∀ b L,β b=some L→oZ β σ.length ⟨w.heap.size,0,0,0⟩ b=some L:=by
 obtain ⟨k1,k2,k3,k4⟩:=O1 hr (hr.nA σ.length (ah _)) (w':=w.alloc (.loop { state:=.ready,pending:=none,fn,tmps,params:=ρ.params,assign:=ρ.assign,body:=ρ.body,defers:=dr })) (.loop (ρ.at .ready)) 0 0 (obj:=.loop { state:=.ready,pending:=none,fn,tmps,params:=ρ.params,assign:=ρ.assign,body:=ρ.body,defers:=dr }) rfl rfl rfl rfl
 rw [Ba] at k1 k2 k4
 exact ⟨k4 ⟨tmps,dr,fn,World.alloc_heap_new _ _,hn,fun k hk=>(ht k hk).mono k2 k3⟩,k1,k3⟩
theorem Wq {X:Nat→Nat→Prop} {base mb:Nat} {D:List Deferred} {β:Env} {a:Act} {w:World} {b:Frame} (h3:Rel X base mb D st β a w) (m9:lo.ok β b) (Ep:mb≤w.heap.size) (ρ:gF) (hL:lV ρ.tm st.tm) (fp:∀ b0,lo.ro=some b0→∃ r,bG st.σ b0=some (.loop r)) :
  ∃ (l:Nat) (mark:List Deferred) (w1:World),(Instr.enterLoop b.fn a.tmps ρ.params ρ.assign ρ.body b.roundOf).run P w = .ok (l,mark) w1 ∧
   cC X base (st.σ++[some (.loop (ρ.at .ready))]) (oZ β st.σ.length ⟨l,0,0,0⟩) w1∧Ext 0 st.σ β w (st.σ++[some (.loop (ρ.at .ready))]) (oZ β st.σ.length ⟨l,0,0,0⟩) w1∧(∀ b L,β b=some L→oZ β st.σ.length ⟨l,0,0,0⟩ b=some L) ∧
   w.heap.size≤l∧Marks mb D w1 (mark++a.defers):=by
 obtain ⟨hLn,hLt⟩:=EY hL
 have qN:∀ k,k < ρ.tm.length→bR w (MT X st.σ β) β (a.tmps.getD k undef) (ρ.tm.getD k .undef):=fun j hj=>by
  rcases hLt j hj with e | e
  ·rw [e];exact .undef _
  ·rw [e];exact h3.t j (by omega)
 have fF:a.tmps.size = ρ.tm.length:=by rw [h3.n,hLn]
 unfold Ctx.ok at m9
 cases hr:lo.ro with
 | none =>
  rw [hr] at m9
  simp only at m9
  rw [m9]
  obtain ⟨q1,q2⟩:=WX h3.s (.deferred (some []))
  obtain ⟨k1,k2,k3⟩:=Ty q1 ρ (tmps:=a.tmps) b.fn w.heap.size fF (fun k hk=>(qN k hk).mono (q2.keeps h3.s) (fun _ _ h=>h))
  refine ⟨w.heap.size+1,_,_,run_enterLoop_outer _ _ _ _ _,?_,?_,?_,by omega,?_⟩
  ·rw [World.size_alloc] at k1;exact k1
  ·rw [World.size_alloc] at k2;exact q2.trans k2
  ·rw [World.size_alloc] at k3;exact k3
  ·have hd:=h3.d.ext h3.s (q2.trans k2)
   obtain ⟨rs,m1,m2,m3⟩:=hd
   obtain ⟨VA,n1,n2,n3⟩:=h3.d
   have hrs:rs=VA:=by
    have:rs.map (fun r=>({ target:=.collected r,args:=#[] }:Deferred))++D=VA.map (fun r=>({ target:=.collected r,args:=#[] }:Deferred))++D:=by rw [← m1,← n1]
    have:=List.append_cancel_right this
    exact (List.map_inj_right (fun x y h=>by simpa using h)).1 this
   refine ⟨w.heap.size :: rs,by rw [m1];rfl,eQ.2 ⟨fun hm=>?_,m2⟩,fun r qj=>?_⟩
   ·rw [hrs] at hm
    have:=(aL.1 (n3 _ hm).2).1
    omega
   ·rcases aQ.1 qj with e | e
    ·subst e
     refine ⟨Ep,?_⟩
     show (((w.heap.push (.deferred (some []))).push _)[w.heap.size]? : Option Obj) = _
     rw [fv,if_neg (by simp),fv,if_pos rfl]
    ·exact m3 r e
 | some b0 =>
  rw [hr] at m9
  obtain ⟨xl,L0,za,I_⟩:=m9
  obtain ⟨r0,I7⟩:=fp b0 hr
  rw [I_]
  obtain ⟨L',q1,q2,q3,VD,dr',fn',q4,_⟩:=h3.s.cd b0 _ (jU I7)
  obtain rfl:=aM (za.symm.trans q1)
  obtain ⟨k1,k2,k3⟩:=Ty h3.s ρ (tmps:=a.tmps) b.fn dr' fF qN
  exact ⟨w.heap.size,[],_,Zgq q4 _ _ _ _ _,k1,k2,k3,ah _,h3.d.ext h3.s k2⟩
theorem ib.rangeFunc {f:Operand} {ps:Array Tmp} {assign body:Code} (zu:List ae) (hL:lV zu st.tm) (fp:∀ b0,lo.ro=some b0→∃ r,bG st.σ b0=some (.loop r))
  (h:∀ ρ:gF,ρ.tm=zu→ρ.params=ps→ρ.assign=assign→ρ.body=body→aq P (ev st.tm f) [.ld st.σ.length] (st.σ++[some (.loop (ρ.at .ready))]) (vG Q st.tm ρ st.σ.length)) :
  ib P lo (.rangeFunc f ps assign body) st Q:=by
 intro X base mb D β a w b k cs h1 h2 h3 m9
 let ρ:gF:=⟨zu,ps,assign,body, .ready⟩
 obtain ⟨l,mark,w1,e1,e2,e3,e4,e5,e6⟩:=Wq (P:=P) h3 m9 h2 ρ hL fp
 have Vs:oZ β st.σ.length ⟨l,0,0,0⟩ st.σ.length=some ⟨l,0,0,0⟩:=tq _ _ _
 generalize vw:oZ β st.σ.length ⟨l,0,0,0⟩ = eO at *
 have vg:=e3.keeps h3.s
 obtain ⟨r,iM,mJ,v,w2,⟨s,q1,q2⟩,g1,g2,g3,g4,f1,Aa,w0,g5,g6⟩:=h ρ rfl rfl rfl rfl X base eO w1 (a.eval f) #[.func (.yield l) #[] #[]] e2 ((uP h3 f).mono vg e4) rfl (fun j hj=>by
  have rr:j=0:=by simpa using hj
  subst rr
  exact bR.ld (L:=⟨l,0,0,0⟩) Vs) (b.atR { a with defers:=mark++a.defers } (.inRangeFunc l :: k)) cs (fun d b' s a' k' e=>by simp [Frame.atR] at e)
 have Vg:(st.σ++[some (bE.loop (ρ.at .ready))]).length=st.σ.length+1:=by simp
 have FT : mJ st.σ.length=some ⟨l,0,0,0⟩:=(g3.env _ (by omega)).trans Vs
 have zd:=jU q1
 obtain ⟨q,x1,x2,x3,x4,x5,x6,x7,x8,_⟩:=HL (s':=.ready) g1 zd FT
 have MW:q.state≠.busy:=by
  rw [x2]
  cases s with
  | busy=>exact q2.elim
  | ready=>simp [fS.of]
  | done c=>simp [fS.of]
 have hend:=run_endLoop (P:=P) x1 MW
 have hle:xo (iM.set st.σ.length none) iM:=fun c x hx=>by
  by_cases e:st.σ.length=c
  ·subst e
   have bD:st.σ.length < iM.length:=by omega
   simp [bD] at hx
  ·rw [bL e] at hx;exact hx
 have Gp:=g1.less hle (by simp)
 obtain ⟨k1,k2⟩:=Gp.aside (l:=l) (q':={ q with state:=.exhausted }) x1 (fun c cd L hc CD e=>by
  have eg:c≠st.σ.length:=fun e'=>by
   subst e'
   have bD:st.σ.length < iM.length:=by omega
   simp [bD] at hc
  exact eg (g1.inj c st.σ.length cd _ L _ (hle c cd hc) zd CD FT e)) (fun o hx=>by have:=h3.s.pW l o hx;omega)
 generalize Dd:w2.putObj l (.loop { q with state:=.exhausted })=w3 at *
 have nC:∀ g o,iO (iM.set st.σ.length none) mJ g o→iO iM mJ g o:=fun g o ⟨c,cd,L,m1,m2,m3,m4⟩=>⟨c,cd,L,hle c cd m1,m2,m3,m4⟩
 have U_:∀ g,g≠l→w3.heap[g]? = w2.heap[g]?:=fun g hg=>by rw [← Dd];exact World.putObj_heap_other hg
 have Bp:Ext lo.n iM mJ w2 (iM.set st.σ.length none) mJ w3:=by
  refine ⟨by rw [← Dd];rfl,by rw [← Dd];rfl,by rw [← Dd];rfl,by rw [← Dd,World.putObj_size];exact ah _,fun g o v hc _=>?_,fun g hg hn=>U_ g fun e=>hn 0 ⟨st.σ.length,_,_,zd,FT,e.symm,trivial⟩,fun g o hm=>.inl (nC g o hm),fun _ _=>rfl⟩
  have eg:g≠l:=fun e=>by rw [e] at hc;exact Hl x1 hc
  rw [World.cell?_of_block (w:=w2) (a:=⟨g,o,none⟩) (U_ g eg)];exact hc
 have Ga:Ext lo.n st.σ β w (st.σ++[some (.loop (ρ.at .ready))]) eO w1:=⟨e3.os,e3.tape,e3.output,e3.size,e3.cell,e3.block,e3.iB,fun c hc=>by rw [← vw];exact B7 _ _ _ (by omega)⟩
 have hE:=(Ga.trans (g3.lower (by omega))).trans Bp
 have hkE:df w (MT X st.σ β) w3 (MT X (iM.set st.σ.length none) mJ):=hE.keeps h3.s
 have GO:∀ c L,β c=some L→mJ c=some L:=fun c L hc=>by
  have bD:c<st.σ.length:=ju fun hle=>by rw [h3.s.nA c hle] at hc;cases hc
  rw [g3.env c (by omega)];exact e4 c L hc
 have hrel:Rel X base mb D ⟨st.tm,iM.set st.σ.length none⟩ mJ { a with defers:=mark++a.defers } w3:=by
  refine ⟨k1,h3.n,fun j hj=>(h3.t j hj).mono hkE GO,?_⟩
  have:=(e6.ext e2 g3)
  exact this.ext g1 Bp
 have iq:Steps P (lone (b.atR a (.code (.rangeFunc f ps assign body) :: k)) cs w) (lone (b.atR { a with defers:=mark++a.defers } ((q.pending.map Item.code).toList++k)) cs w3):=by
  refine .head (step_lone_go ?_) (g6.trans ?_)
  ·rw [← g5]
   have hev:Frame.eval (b.atR { tmps:=a.tmps,defers:=mark++a.defers } (.inRangeFunc l :: k))=a.eval:=Frame.eval_atR b { a with defers:=mark++a.defers } (.inRangeFunc l :: k)
   have hs:(do let d ← resolve a.eval (rangeCall f l) 0;invoke d.target d.args:Sem Next)=(do let d ← Deferred.ofValue (a.eval f) #[.func (.yield l) #[] #[]];invoke d.target d.args):=by
    simp [resolve,rangeCall,Act.eval]
   rw [← hs,← hev]
   have e1':(Instr.enterLoop b.fn a.tmps ps assign body b.roundOf).run P w = .ok (l,mark) w1:=e1
   simp [stepG,stepG.exec,Frame.atR,Sem.runT_eq,e1',GStep.bare_after]
  ·rw [finish_atR_inRangeFunc]
   exact .one (stepR_endRangeFunc hend)
 have Aq:lo.n≤(iM.set st.σ.length none).length:=by rw [bg];omega
 have Gz:q.pending=s.of.2:=x3
 rw [Gz] at iq
 cases s with
 | busy=>exact q2.elim
 | ready=>exact ⟨.normal,_,mJ,_,w3,q2,Aq,hrel,hE,iq⟩
 | done c =>
  cases c with
  | ret=>exact ⟨.ret,_,mJ,_,w3,q2,Aq,hrel,hE,k,iq⟩
  | exit id=>exact ⟨.exit id,_,mJ,_,w3,q2,Aq,hrel,hE,k,rfl,iq⟩
  | goto l=>exact ⟨.goto l,_,mJ,_,w3,q2,Aq,hrel,hE,k,rfl,iq⟩
  | _=>exact q2.elim
end
end Go.c8
