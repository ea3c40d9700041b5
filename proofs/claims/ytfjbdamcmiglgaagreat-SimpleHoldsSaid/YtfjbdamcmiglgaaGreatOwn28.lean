/- Part 28 of my own framework and of the walks of functions: AcsC. -/
import Derived.Test.YtfjbdamcmiglgaaGreatOwn27
set_option linter.unusedVariables false
set_option linter.unusedSectionVars false
set_option linter.unusedSimpArgs false
namespace Go.dm
open Go
def pO (Q:ct→St→Prop) (tm:List ah) (σ:ai):gJ→Prop
 | .ready=>Q .normal ⟨tm,σ⟩
 | .done .ret=>Q .ret ⟨tm,σ⟩
 | .done (.exit id)=>Q (.exit id) ⟨tm,σ⟩
 | .done (.goto l)=>Q (.goto l) ⟨tm,σ⟩
 | _=>False
def wU (Q:ct→St→Prop) (tm:List ah) (ρ:ic) (n:Nat) (_:ah) (σ:ai):Prop :=
 ∃ s,bP σ n=some (.loop (ρ.at s))∧pO Q tm (σ.set n none) s
section
variable {P:Program} {lo:Ctx} {st:St} {Q:ct→St→Prop}
theorem Zhi {w:World} {l:Nat} {r:Loop} (h:w.heap[l]? = some (.loop r)) (fn:FuncId) (tmps:Array Value) (ps:Array Tmp) (assign body:Code) :
  (Instr.enterLoop fn tmps ps assign body (some l)).run P w = .ok (w.heap.size,[]) (w.alloc (.loop { state:=.ready,pending:=none,fn,tmps,params:=ps,assign,body,defers:=r.defers })):=by
 unfold Instr.enterLoop;simp only [Sem.run_bind,run_getLoop h,run_newObj_alloc,Result.andThen,Sem.run_pure]
theorem Cq (σ:ai) (x:bO):cr σ σ.length x = σ++[some x]:=by simp [cr]
theorem Yhn {X:Nat→Nat→Prop} {base:Nat} {σ:ai} {β:Env} {w:World} (hr:cS X base σ β w) (o:Obj):cS X base σ β (w.alloc o)∧Ext 0 σ β w σ β (w.alloc o):=by
 have hh:∀ g,g<w.heap.size→(w.alloc o).heap[g]? = w.heap[g]?:=fun g hg=>by
  show (w.heap.push o)[g]? = _;rw [fY,if_neg (by omega)]
 have hs:w.heap.size≤(w.alloc o).heap.size:=by rw [World.size_alloc];omega
 obtain ⟨k1,k2⟩:=hr.kept hs hh;exact ⟨k1,rfl,rfl,rfl,hs,fun g o' v hc _=>by rw [World.cell?_of_block (w:=w) (a:=⟨g,o',none⟩) (hh g (yP hc))];exact hc,fun g hg _=>hh g hg,fun g o' h=>.inl h,fun _ _=>rfl⟩
theorem Xl {X:Nat→Nat→Prop} {base:Nat} {σ:ai} {β:Env} {w:World} (hr:cS X base σ β w) (ρ:ic) {tmps:Array Value} (fn:FuncId) (dr:Nat) (hn:tmps.size = ρ.tm.length) (ht:∀ k,k < ρ.tm.length→cf w (MT X σ β) β (tmps.getD k undef) (ρ.tm.getD k .undef)) :
  cS X base (σ++[some (.loop (ρ.at .ready))]) (pQ β σ.length ⟨w.heap.size,0,0,0⟩) (w.alloc (.loop { state:=.ready,pending:=none,fn,tmps,params:=ρ.params,assign:=ρ.assign,body:=ρ.body,defers:=dr })) ∧
   Ext 0 σ β w (σ++[some (.loop (ρ.at .ready))]) (pQ β σ.length ⟨w.heap.size,0,0,0⟩) (w.alloc (.loop { state:=.ready,pending:=none,fn,tmps,params:=ρ.params,assign:=ρ.assign,body:=ρ.body,defers:=dr })) ∧
   ∀ b L,β b=some L→pQ β σ.length ⟨w.heap.size,0,0,0⟩ b=some L:=by
 obtain ⟨k1,k2,k3,k4⟩:=Q8 hr (hr.oo σ.length (ae _)) (w':=w.alloc (.loop { state:=.ready,pending:=none,fn,tmps,params:=ρ.params,assign:=ρ.assign,body:=ρ.body,defers:=dr })) (.loop (ρ.at .ready)) 0 0 (obj:=.loop { state:=.ready,pending:=none,fn,tmps,params:=ρ.params,assign:=ρ.assign,body:=ρ.body,defers:=dr }) rfl rfl rfl rfl;rw [Cq] at k1 k2 k4;exact ⟨k4 ⟨tmps,dr,fn,World.alloc_heap_new _ _,hn,fun k hk=>(ht k hk).mono k2 k3⟩,k1,k3⟩
theorem Ydf {X:Nat→Nat→Prop} {base mb:Nat} {D:List Deferred} {β:Env} {a:Act} {w:World} {b:Frame} (h3:Rel X base mb D st β a w) (mD:lo.ok β b) (FM:mb≤w.heap.size) (ρ:ic) (hL:mr ρ.tm st.tm) (fD:∀ b0,lo.ro=some b0→∃ r,bP st.σ b0=some (.loop r)) :
  ∃ (l:Nat) (mark:List Deferred) (w1:World),(Instr.enterLoop b.fn a.tmps ρ.params ρ.assign ρ.body b.roundOf).run P w = .ok (l,mark) w1 ∧
   cS X base (st.σ++[some (.loop (ρ.at .ready))]) (pQ β st.σ.length ⟨l,0,0,0⟩) w1∧Ext 0 st.σ β w (st.σ++[some (.loop (ρ.at .ready))]) (pQ β st.σ.length ⟨l,0,0,0⟩) w1∧(∀ b L,β b=some L→pQ β st.σ.length ⟨l,0,0,0⟩ b=some L) ∧
   w.heap.size≤l∧Marks mb D w1 (mark++a.defers):=by
 obtain ⟨hLn,hLt⟩:=Gu hL;have sm:∀ k,k < ρ.tm.length→cf w (MT X st.σ β) β (a.tmps.getD k undef) (ρ.tm.getD k .undef):=fun j hj=>by
  rcases hLt j hj with e | e
  ·rw [e];exact .undef _
  ·rw [e];exact h3.t j (by omega)
 have fJ:a.tmps.size = ρ.tm.length:=by rw [h3.n,hLn]
 unfold Ctx.ok at mD;cases hr:lo.ro with
 | none =>
  rw [hr] at mD;simp only at mD;rw [mD];obtain ⟨q1,q2⟩:=Yhn h3.s (.deferred (some []));obtain ⟨k1,k2,k3⟩:=Xl q1 ρ (tmps:=a.tmps) b.fn w.heap.size fJ (fun k hk=>(sm k hk).mono (q2.keeps h3.s) (fun _ _ h=>h));refine ⟨w.heap.size+1,_,_,run_enterLoop_outer _ _ _ _ _,?_,?_,?_,by omega,?_⟩
  ·rw [World.size_alloc] at k1;exact k1
  ·rw [World.size_alloc] at k2;exact q2.trans k2
  ·rw [World.size_alloc] at k3;exact k3
  ·have hd:=h3.d.ext h3.s (q2.trans k2);obtain ⟨rs,m1,m2,m3⟩:=hd;obtain ⟨Ym,n1,n2,n3⟩:=h3.d;have hrs:rs=Ym:=by
    have:rs.map (fun r=>({ target:=.collected r,args:=#[] }:Deferred))++D=Ym.map (fun r=>({ target:=.collected r,args:=#[] }:Deferred))++D:=by rw [← m1,← n1]
    have:=List.append_cancel_right this;exact (List.map_inj_right (fun x y h=>by simpa using h)).1 this
   refine ⟨w.heap.size :: rs,by rw [m1];rfl,eT.2 ⟨fun hm=>?_,m2⟩,fun r pV=>?_⟩
   ·rw [hrs] at hm;have:=(aO.1 (n3 _ hm).2).1;omega
   ·rcases aQ.1 pV with e | e
    ·subst e;refine ⟨FM,?_⟩;show (((w.heap.push (.deferred (some []))).push _)[w.heap.size]? : Option Obj) = _;rw [fY,if_neg (by simp),fY,if_pos rfl]
    ·exact m3 r e
 | some b0 =>
  rw [hr] at mD;obtain ⟨yw,L0,vZ,KE⟩:=mD;obtain ⟨r0,wa⟩:=fD b0 hr;rw [KE];obtain ⟨L',q1,q2,q3,Yp,dr',fn',q4,_⟩:=h3.s.cw b0 _ (kq wa);obtain rfl:=aP (vZ.symm.trans q1);obtain ⟨k1,k2,k3⟩:=Xl h3.s ρ (tmps:=a.tmps) b.fn dr' fJ sm;exact ⟨w.heap.size,[],_,Zhi q4 _ _ _ _ _,k1,k2,k3,ae _,h3.d.ext h3.s k2⟩
theorem iy.rangeFunc {f:Operand} {ps:Array Tmp} {assign body:Code} (AQ:List ah) (hL:mr AQ st.tm) (fD:∀ b0,lo.ro=some b0→∃ r,bP st.σ b0=some (.loop r))
  (h:∀ ρ:ic,ρ.tm=AQ→ρ.params=ps→ρ.assign=assign→ρ.body=body→aq P (ev st.tm f) [.lN st.σ.length] (st.σ++[some (.loop (ρ.at .ready))]) (wU Q st.tm ρ st.σ.length)) :
  iy P lo (.rangeFunc f ps assign body) st Q:=by
 intro X base mb D β a w b k cs h1 h2 h3 mD
 let ρ:ic:=⟨AQ,ps,assign,body, .ready⟩
 obtain ⟨l,mark,w1,e1,e2,e3,e4,e5,e6⟩:=Ydf (P:=P) h3 mD h2 ρ hL fD;have Yg:pQ β st.σ.length ⟨l,0,0,0⟩ st.σ.length=some ⟨l,0,0,0⟩:=uR _ _ _;generalize wN:pQ β st.σ.length ⟨l,0,0,0⟩ = fy at *
 have wF:=e3.keeps h3.s;obtain ⟨r,jq,nx,v,w2,⟨s,q1,q2⟩,g1,g2,g3,g4,f1,Bs,w0,g5,g6⟩:=h ρ rfl rfl rfl rfl X base fy w1 (a.eval f) #[.func (.yield l) #[] #[]] e2 ((wq h3 f).mono wF e4) rfl (fun j hj=>by
  have sS:j=0:=by simpa using hj
  subst sS;exact cf.lN (L:=⟨l,0,0,0⟩) Yg) (b.atR { a with defers:=mark++a.defers } (.inRangeFunc l :: k)) cs (fun d b' s a' k' e=>by simp [Frame.atR] at e)
 have X5:(st.σ++[some (bO.loop (ρ.at .ready))]).length=st.σ.length+1:=by simp
 have Hj : nx st.σ.length=some ⟨l,0,0,0⟩:=(g3.env _ (by omega)).trans Yg;have Ao:=kq q1;obtain ⟨q,x1,x2,x3,x4,x5,x6,x7,x8,_⟩:=Jm (s':=.ready) g1 Ao Hj;have Pj:q.state≠.busy:=by
  rw [x2];cases s with
  | busy=>exact q2.elim
  | ready=>simp [gJ.of]
  | done c=>simp [gJ.of]
 have hend:=run_endLoop (P:=P) x1 Pj;have hle:yB (jq.set st.σ.length none) jq:=fun c x hx=>by
  by_cases e:st.σ.length=c
  ·subst e;have bA:st.σ.length < jq.length:=by omega
   simp [bA] at hx
  ·rw [bX e] at hx;exact hx
 have HR:=g1.less hle (by simp);obtain ⟨k1,k2⟩:=HR.aside (l:=l) (q':={ q with state:=.exhausted }) x1 (fun c cw L hc DQ e=>by
  have eH:c≠st.σ.length:=fun e'=>by
   subst e';have bA:st.σ.length < jq.length:=by omega
   simp [bA] at hc
  exact eH (g1.inj c st.σ.length cw _ L _ (hle c cw hc) Ao DQ Hj e)) (fun o hx=>by have:=h3.s.qL l o hx;omega)
 generalize Et:w2.putObj l (.loop { q with state:=.exhausted })=w3 at *
 have ot:∀ g o,jr (jq.set st.σ.length none) nx g o→jr jq nx g o:=fun g o ⟨c,cw,L,m1,m2,m3,m4⟩=>⟨c,cw,L,hle c cw m1,m2,m3,m4⟩;have XW:∀ g,g≠l→w3.heap[g]? = w2.heap[g]?:=fun g hg=>by rw [← Et];exact World.putObj_heap_other hg
 have CG:Ext lo.n jq nx w2 (jq.set st.σ.length none) nx w3:=by
  refine ⟨by rw [← Et];rfl,by rw [← Et];rfl,by rw [← Et];rfl,by rw [← Et,World.putObj_size];exact ae _,fun g o v hc _=>?_,fun g hg hn=>XW g fun e=>hn 0 ⟨st.σ.length,_,_,Ao,Hj,e.symm,trivial⟩,fun g o hm=>.inl (ot g o hm),fun _ _=>rfl⟩;have eH:g≠l:=fun e=>by rw [e] at hc;exact IL x1 hc
  rw [World.cell?_of_block (w:=w2) (a:=⟨g,o,none⟩) (XW g eH)];exact hc
 have HE:Ext lo.n st.σ β w (st.σ++[some (.loop (ρ.at .ready))]) fy w1:=⟨e3.os,e3.tape,e3.output,e3.size,e3.cell,e3.block,e3.jb,fun c hc=>by rw [← wN];exact De _ _ _ (by omega)⟩;have hE:=(HE.trans (g3.lower (by omega))).trans CG;have hkE:dD w (MT X st.σ β) w3 (MT X (jq.set st.σ.length none) nx):=hE.keeps h3.s;have Ih:∀ c L,β c=some L→nx c=some L:=fun c L hc=>by
  have bA:c<st.σ.length:=jU fun hle=>by rw [h3.s.oo c hle] at hc;cases hc
  rw [g3.env c (by omega)];exact e4 c L hc
 have hrel:Rel X base mb D ⟨st.tm,jq.set st.σ.length none⟩ nx { a with defers:=mark++a.defers } w3:=by
  refine ⟨k1,h3.n,fun j hj=>(h3.t j hj).mono hkE Ih,?_⟩;have:=(e6.ext e2 g3);exact this.ext g1 CG
 have fP:Steps P (lone (b.atR a (.code (.rangeFunc f ps assign body) :: k)) cs w) (lone (b.atR { a with defers:=mark++a.defers } ((q.pending.map Item.code).toList++k)) cs w3):=by
  refine .head (step_lone_go ?_) (g6.trans ?_)
  ·rw [← g5];have hev:Frame.eval (b.atR { tmps:=a.tmps,defers:=mark++a.defers } (.inRangeFunc l :: k))=a.eval:=Frame.eval_atR b { a with defers:=mark++a.defers } (.inRangeFunc l :: k);have hs:(do let d ← resolve a.eval (rangeCall f l) 0;invoke d.target d.args:Sem Next)=(do let d ← Deferred.ofValue (a.eval f) #[.func (.yield l) #[] #[]];invoke d.target d.args):=by
    simp [resolve,rangeCall,Act.eval]
   rw [← hs,← hev];have e1':(Instr.enterLoop b.fn a.tmps ps assign body b.roundOf).run P w = .ok (l,mark) w1:=e1;simp [stepG,stepG.exec,Frame.atR,Sem.runT_eq,e1',GStep.bare_after]
  ·rw [finish_atR_inRangeFunc];exact .one (stepR_endRangeFunc hend)
 have BK:lo.n≤(jq.set st.σ.length none).length:=by rw [bj];omega
 have H2:q.pending=s.of.2:=x3;rw [H2] at fP;cases s with
 | busy=>exact q2.elim
 | ready=>exact ⟨.normal,_,nx,_,w3,q2,BK,hrel,hE,fP⟩
 | done c =>
  cases c with
  | ret=>exact ⟨.ret,_,nx,_,w3,q2,BK,hrel,hE,k,fP⟩
  | exit id=>exact ⟨.exit id,_,nx,_,w3,q2,BK,hrel,hE,k,rfl,fP⟩
  | goto l=>exact ⟨.goto l,_,nx,_,w3,q2,BK,hrel,hE,k,rfl,fP⟩
  | _=>exact q2.elim
end
end Go.dm
