/- Part 28 of my own framework and of the walks of functions: AcsC. -/
import Derived.Test.YtpgnahcljlclcaaGreatOwn27
set_option linter.unusedVariables false
set_option linter.unusedSectionVars false
set_option linter.unusedSimpArgs false
namespace Go.Abs
open Go
def rangeEnd (Q:AExit→St→Prop) (tm:List AVal) (σ:Store):LState→Prop
 | .ready=>Q .normal ⟨tm,σ⟩
 | .done .ret=>Q .ret ⟨tm,σ⟩
 | .done (.exit id)=>Q (.exit id) ⟨tm,σ⟩
 | .done (.goto l)=>Q (.goto l) ⟨tm,σ⟩
 | _=>False
def rangeK (Q:AExit→St→Prop) (tm:List AVal) (ρ:LoopA) (n:Nat) (_:AVal) (σ:Store):Prop :=
 ∃ s,getS σ n=some (.loop (ρ.at s))∧rangeEnd Q tm (σ.set n none) s
section
variable {P:Program} {lo:Ctx} {st:St} {Q:AExit→St→Prop}
theorem Zge {w:World} {l:Nat} {r:Loop} (h:w.heap[l]? = some (.loop r)) (fn:FuncId) (tmps:Array Value) (ps:Array Tmp) (assign body:Code) :
  (Instr.enterLoop fn tmps ps assign body (some l)).run P w = .ok (w.heap.size,[]) (w.alloc (.loop { state:=.ready,pending:=none,fn,tmps,params:=ps,assign,body,defers:=r.defers })):=by
 unfold Instr.enterLoop
 simp only [Sem.run_bind,run_getLoop h,run_newObj_alloc,Result.andThen,Sem.run_pure]
theorem Zet (σ:Store) (x:Blk):setS σ σ.length x = σ++[some x]:=by simp [setS]
theorem Zyv {X:Nat→Nat→Prop} {base:Nat} {σ:Store} {β:Env} {w:World} (hr:RelS X base σ β w) (o:Obj):RelS X base σ β (w.alloc o)∧Ext 0 σ β w σ β (w.alloc o):=by
 have hh:∀ g,g<w.heap.size→(w.alloc o).heap[g]? = w.heap[g]?:=fun g hg=>by
  show (w.heap.push o)[g]? = _
  rw [Array.getElem?_push,if_neg (by omega)]
 have hs:w.heap.size≤(w.alloc o).heap.size:=by rw [World.size_alloc];omega
 obtain ⟨k1,k2⟩:=hr.kept hs hh
 exact ⟨k1,rfl,rfl,rfl,hs,fun g o' v hc _=>by rw [World.cell?_of_block (w:=w) (a:=⟨g,o',none⟩) (hh g (Zck hc))];exact hc,fun g hg _=>hh g hg,fun g o' h=>.inl h,fun _ _=>rfl⟩
theorem Zu1 {X:Nat→Nat→Prop} {base:Nat} {σ:Store} {β:Env} {w:World} (hr:RelS X base σ β w) (ρ:LoopA) {tmps:Array Value} (fn:FuncId) (dr:Nat) (hn:tmps.size = ρ.tm.length) (ht:∀ k,k < ρ.tm.length→Rep w (MT X σ β) β (tmps.getD k undef) (ρ.tm.getD k .undef)) :
  RelS X base (σ++[some (.loop (ρ.at .ready))]) (upd β σ.length ⟨w.heap.size,0,0,0⟩) (w.alloc (.loop { state:=.ready,pending:=none,fn,tmps,params:=ρ.params,assign:=ρ.assign,body:=ρ.body,defers:=dr })) ∧
   Ext 0 σ β w (σ++[some (.loop (ρ.at .ready))]) (upd β σ.length ⟨w.heap.size,0,0,0⟩) (w.alloc (.loop { state:=.ready,pending:=none,fn,tmps,params:=ρ.params,assign:=ρ.assign,body:=ρ.body,defers:=dr })) ∧
   ∀ b L,β b=some L→upd β σ.length ⟨w.heap.size,0,0,0⟩ b=some L:=by
 obtain ⟨k1,k2,k3,k4⟩:=Ycq hr (hr.dom σ.length (Nat.le_refl _)) (w':=w.alloc (.loop { state:=.ready,pending:=none,fn,tmps,params:=ρ.params,assign:=ρ.assign,body:=ρ.body,defers:=dr })) (.loop (ρ.at .ready)) 0 0 (obj:=.loop { state:=.ready,pending:=none,fn,tmps,params:=ρ.params,assign:=ρ.assign,body:=ρ.body,defers:=dr }) rfl rfl rfl rfl
 rw [Zet] at k1 k2 k4
 exact ⟨k4 ⟨tmps,dr,fn,World.alloc_heap_new _ _,hn,fun k hk=>(ht k hk).mono k2 k3⟩,k1,k3⟩
theorem Zxs {X:Nat→Nat→Prop} {base mb:Nat} {D:List Deferred} {β:Env} {a:Act} {w:World} {b:Frame} (h3:Rel X base mb D st β a w) (hro:lo.ok β b) (hmb:mb≤w.heap.size) (ρ:LoopA) (hL:leTm ρ.tm st.tm) (hin:∀ b0,lo.ro=some b0→∃ r,getS st.σ b0=some (.loop r)) :
  ∃ (l:Nat) (mark:List Deferred) (w1:World),(Instr.enterLoop b.fn a.tmps ρ.params ρ.assign ρ.body b.roundOf).run P w = .ok (l,mark) w1 ∧
   RelS X base (st.σ++[some (.loop (ρ.at .ready))]) (upd β st.σ.length ⟨l,0,0,0⟩) w1∧Ext 0 st.σ β w (st.σ++[some (.loop (ρ.at .ready))]) (upd β st.σ.length ⟨l,0,0,0⟩) w1∧(∀ b L,β b=some L→upd β st.σ.length ⟨l,0,0,0⟩ b=some L) ∧
   w.heap.size≤l∧Marks mb D w1 (mark++a.defers):=by
 obtain ⟨hLn,hLt⟩:=Zfm hL
 have hrep:∀ k,k < ρ.tm.length→Rep w (MT X st.σ β) β (a.tmps.getD k undef) (ρ.tm.getD k .undef):=fun j hj=>by
  rcases hLt j hj with e | e
  ·rw [e];exact .undef _
  ·rw [e];exact h3.t j (by omega)
 have hsz:a.tmps.size = ρ.tm.length:=by rw [h3.n,hLn]
 unfold Ctx.ok at hro
 cases hr:lo.ro with
 | none =>
  rw [hr] at hro
  simp only at hro
  rw [hro]
  obtain ⟨q1,q2⟩:=Zyv h3.s (.deferred (some []))
  obtain ⟨k1,k2,k3⟩:=Zu1 q1 ρ (tmps:=a.tmps) b.fn w.heap.size hsz (fun k hk=>(hrep k hk).mono (q2.keeps h3.s) (fun _ _ h=>h))
  refine ⟨w.heap.size+1,_,_,run_enterLoop_outer _ _ _ _ _,?_,?_,?_,by omega,?_⟩
  ·rw [World.size_alloc] at k1;exact k1
  ·rw [World.size_alloc] at k2;exact q2.trans k2
  ·rw [World.size_alloc] at k3;exact k3
  ·have hd:=h3.d.ext h3.s (q2.trans k2)
   obtain ⟨rs,m1,m2,m3⟩:=hd
   obtain ⟨rs0,n1,n2,n3⟩:=h3.d
   have hrs:rs=rs0:=by
    have:rs.map (fun r=>({ target:=.collected r,args:=#[] }:Deferred))++D=rs0.map (fun r=>({ target:=.collected r,args:=#[] }:Deferred))++D:=by rw [← m1,← n1]
    have:=List.append_cancel_right this
    exact (List.map_inj_right (fun x y h=>by simpa using h)).1 this
   refine ⟨w.heap.size :: rs,by rw [m1];rfl,List.nodup_cons.2 ⟨fun hm=>?_,m2⟩,fun r hr'=>?_⟩
   ·rw [hrs] at hm
    have:=(Array.getElem?_eq_some_iff.1 (n3 _ hm).2).1
    omega
   ·rcases List.mem_cons.1 hr' with e | e
    ·subst e
     refine ⟨hmb,?_⟩
     show (((w.heap.push (.deferred (some []))).push _)[w.heap.size]? : Option Obj) = _
     rw [Array.getElem?_push,if_neg (by simp),Array.getElem?_push,if_pos rfl]
    ·exact m3 r e
 | some b0 =>
  rw [hr] at hro
  obtain ⟨hb0,L0,hL0,hrd⟩:=hro
  obtain ⟨r0,hr0⟩:=hin b0 hr
  rw [hrd]
  obtain ⟨L',q1,q2,q3,tmps',dr',fn',q4,_⟩:=h3.s.blk b0 _ (Zae hr0)
  obtain rfl:=Option.some.inj (hL0.symm.trans q1)
  obtain ⟨k1,k2,k3⟩:=Zu1 h3.s ρ (tmps:=a.tmps) b.fn dr' hsz hrep
  exact ⟨w.heap.size,[],_,Zge q4 _ _ _ _ _,k1,k2,k3,Nat.le_refl _,h3.d.ext h3.s k2⟩
theorem EvS.rangeFunc {f:Operand} {ps:Array Tmp} {assign body:Code} (tmL:List AVal) (hL:leTm tmL st.tm) (hin:∀ b0,lo.ro=some b0→∃ r,getS st.σ b0=some (.loop r))
  (h:∀ ρ:LoopA,ρ.tm=tmL→ρ.params=ps→ρ.assign=assign→ρ.body=body→VCall P (ev st.tm f) [.yld st.σ.length] (st.σ++[some (.loop (ρ.at .ready))]) (rangeK Q st.tm ρ st.σ.length)) :
  EvS P lo (.rangeFunc f ps assign body) st Q:=by
 intro X base mb D β a w b k cs h1 h2 h3 hro
 let ρ:LoopA:=⟨tmL,ps,assign,body, .ready⟩
 obtain ⟨l,mark,w1,e1,e2,e3,e4,e5,e6⟩:=Zxs (P:=P) h3 hro h2 ρ hL hin
 have hup:upd β st.σ.length ⟨l,0,0,0⟩ st.σ.length=some ⟨l,0,0,0⟩:=Zbs _ _ _
 generalize hβ1:upd β st.σ.length ⟨l,0,0,0⟩ = β1 at *
 have hk1:=e3.keeps h3.s
 obtain ⟨r,σ2,β2,v,w2,⟨s,q1,q2⟩,g1,g2,g3,g4,f1,cs1,w0,g5,g6⟩:=h ρ rfl rfl rfl rfl X base β1 w1 (a.eval f) #[.func (.yield l) #[] #[]] e2 ((Zdn h3 f).mono hk1 e4) rfl (fun j hj=>by
  have hj':j=0:=by simpa using hj
  subst hj'
  exact Rep.yld (L:=⟨l,0,0,0⟩) hup) (b.atR { a with defers:=mark++a.defers } (.inRangeFunc l :: k)) cs (fun d b' s a' k' e=>by simp [Frame.atR] at e)
 have hlen1:(st.σ++[some (Blk.loop (ρ.at .ready))]).length=st.σ.length+1:=by simp
 have hL2 : β2 st.σ.length=some ⟨l,0,0,0⟩:=(g3.env _ (by omega)).trans hup
 have hbs:=Zae q1
 obtain ⟨q,x1,x2,x3,x4,x5,x6,x7,x8,_⟩:=Zgt (s':=.ready) g1 hbs hL2
 have hnb:q.state≠.busy:=by
  rw [x2]
  cases s with
  | busy=>exact q2.elim
  | ready=>simp [LState.of]
  | done c=>simp [LState.of]
 have hend:=run_endLoop (P:=P) x1 hnb
 have hle:leS (σ2.set st.σ.length none) σ2:=fun c x hx=>by
  by_cases e:st.σ.length=c
  ·subst e
   have hlt:st.σ.length < σ2.length:=by omega
   simp [hlt] at hx
  ·rw [List.getElem?_set_ne e] at hx;exact hx
 have hless:=g1.less hle (by simp)
 obtain ⟨k1,k2⟩:=hless.aside (l:=l) (q':={ q with state:=.exhausted }) x1 (fun c blk L hc hLc e=>by
  have hne:c≠st.σ.length:=fun e'=>by
   subst e'
   have hlt:st.σ.length < σ2.length:=by omega
   simp [hlt] at hc
  exact hne (g1.inj c st.σ.length blk _ L _ (hle c blk hc) hbs hLc hL2 e)) (fun o hx=>by have:=h3.s.xlt l o hx;omega)
 generalize hw3:w2.putObj l (.loop { q with state:=.exhausted })=w3 at *
 have hmof:∀ g o,Mof (σ2.set st.σ.length none) β2 g o→Mof σ2 β2 g o:=fun g o ⟨c,blk,L,m1,m2,m3,m4⟩=>⟨c,blk,L,hle c blk m1,m2,m3,m4⟩
 have hh3:∀ g,g≠l→w3.heap[g]? = w2.heap[g]?:=fun g hg=>by rw [← hw3];exact World.putObj_heap_other hg
 have hext3:Ext lo.n σ2 β2 w2 (σ2.set st.σ.length none) β2 w3:=by
  refine ⟨by rw [← hw3];rfl,by rw [← hw3];rfl,by rw [← hw3];rfl,by rw [← hw3,World.putObj_size];exact Nat.le_refl _,fun g o v hc _=>?_,fun g hg hn=>hh3 g fun e=>hn 0 ⟨st.σ.length,_,_,hbs,hL2,e.symm,trivial⟩,fun g o hm=>.inl (hmof g o hm),fun _ _=>rfl⟩
  have hne:g≠l:=fun e=>by rw [e] at hc;exact Zew x1 hc
  rw [World.cell?_of_block (w:=w2) (a:=⟨g,o,none⟩) (hh3 g hne)];exact hc
 have hext1:Ext lo.n st.σ β w (st.σ++[some (.loop (ρ.at .ready))]) β1 w1:=⟨e3.os,e3.tape,e3.output,e3.size,e3.cell,e3.block,e3.newM,fun c hc=>by rw [← hβ1];exact Zdg _ _ _ (by omega)⟩
 have hE:=(hext1.trans (g3.lower (by omega))).trans hext3
 have hkE:Keeps w (MT X st.σ β) w3 (MT X (σ2.set st.σ.length none) β2):=hE.keeps h3.s
 have hββ:∀ c L,β c=some L→β2 c=some L:=fun c L hc=>by
  have hlt:c<st.σ.length:=Nat.lt_of_not_le fun hle=>by rw [h3.s.dom c hle] at hc;cases hc
  rw [g3.env c (by omega)];exact e4 c L hc
 have hrel:Rel X base mb D ⟨st.tm,σ2.set st.σ.length none⟩ β2 { a with defers:=mark++a.defers } w3:=by
  refine ⟨k1,h3.n,fun j hj=>(h3.t j hj).mono hkE hββ,?_⟩
  have:=(e6.ext e2 g3)
  exact this.ext g1 hext3
 have hstep:Steps P (lone (b.atR a (.code (.rangeFunc f ps assign body) :: k)) cs w) (lone (b.atR { a with defers:=mark++a.defers } ((q.pending.map Item.code).toList++k)) cs w3):=by
  refine .head (step_lone_go ?_) (g6.trans ?_)
  ·rw [← g5]
   have hev:Frame.eval (b.atR { tmps:=a.tmps,defers:=mark++a.defers } (.inRangeFunc l :: k))=a.eval:=Frame.eval_atR b { a with defers:=mark++a.defers } (.inRangeFunc l :: k)
   have hs:(do let d ← resolve a.eval (rangeCall f l) 0;invoke d.target d.args:Sem Next)=(do let d ← Deferred.ofValue (a.eval f) #[.func (.yield l) #[] #[]];invoke d.target d.args):=by
    simp [resolve,rangeCall,Act.eval]
   rw [← hs,← hev]
   have e1':(Instr.enterLoop b.fn a.tmps ps assign body b.roundOf).run P w = .ok (l,mark) w1:=e1
   simp [stepG,stepG.exec,Frame.atR,Sem.runT_eq,e1',GStep.bare_after]
  ·rw [finish_atR_inRangeFunc]
   exact .one (stepR_endRangeFunc hend)
 have hlo':lo.n≤(σ2.set st.σ.length none).length:=by rw [List.length_set];omega
 have hpend:q.pending=s.of.2:=x3
 rw [hpend] at hstep
 cases s with
 | busy=>exact q2.elim
 | ready=>exact ⟨.normal,_,β2,_,w3,q2,hlo',hrel,hE,hstep⟩
 | done c =>
  cases c with
  | ret=>exact ⟨.ret,_,β2,_,w3,q2,hlo',hrel,hE,k,hstep⟩
  | exit id=>exact ⟨.exit id,_,β2,_,w3,q2,hlo',hrel,hE,k,rfl,hstep⟩
  | goto l=>exact ⟨.goto l,_,β2,_,w3,q2,hlo',hrel,hE,k,rfl,hstep⟩
  | _=>exact q2.elim
end
end Go.Abs
