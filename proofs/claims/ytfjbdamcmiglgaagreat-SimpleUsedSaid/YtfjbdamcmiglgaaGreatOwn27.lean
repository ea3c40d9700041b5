/- Part 27 of my own framework and of the walks of functions: AcsB. -/
import Derived.Test.YtfjbdamcmiglgaaGreatOwn26
import Derived.RangeFuncIn
import Derived.RangeFuncRecord
set_option linter.unusedVariables false
set_option linter.unusedSectionVars false
set_option linter.unusedSimpArgs false
namespace Go.cV
open Go
def gD.at (ρ:gD) (s:fS):gD:={ ρ with st:=s }
def pP:List ae→List Tmp→List ae→List ae
 | tm,t :: ts,a :: ck=>pP (tm.set t a) ts ck
 | tm,_,_=>tm
section
variable {P:Program} {X:Nat→Nat→Prop} {base:Nat} {σ σ':ai} {β:Env} {w:World}
theorem Hs {w:World} {g o:Nat} {q:Loop} {v:Value} (h:w.heap[g]? = some (.loop q)):w.cell? ⟨g,o,none⟩≠some v:=by
 intro h2
 simp [World.cell?,h] at h2
theorem cF.less (hr:cF X base σ β w) (h1:xx σ' σ) (h2 : σ'.length = σ.length):cF X base σ' β w:=by
 have hk:dg w (MT X σ β) w (MT X σ' β):=dg.lM fun g o h=>h.imp id fun ⟨b,cf,L,m1,m2,m3,m4⟩=>⟨b,cf,L,h1 b cf m1,m2,m3,m4⟩
 refine ⟨fun b hb=>hr.nC b (by omega),fun b cf hb=>?_,fun b b' x y L L' e1 e2=>hr.inj b b' x y L L' (h1 b x e1) (h1 b' y e2),hr.size,hr.p6,hr.gl⟩
 obtain ⟨L,q1,q2,q3,q4⟩:=hr.cf b cf (h1 b cf hb)
 exact ⟨L,q1,q2,q3,q4.mono hk (fun _ _ h=>h) rfl⟩
theorem cF.aside (hr:cF X base σ β w) {l:Nat} {q q':Loop} (hq:w.heap[l]? = some (.loop q)) (wY:∀ b cf L,σ[b]? = some (some cf)→β b=some L→L.g≠l) (hX:∀ o, ¬ X l o) :
  cF X base σ β (w.putObj l (.loop q'))∧dg w (MT X σ β) (w.putObj l (.loop q')) (MT X σ β):=by
 have hl:l<w.heap.size:=(aL.1 hq).1
 have hh:∀ g,g≠l→(w.putObj l (.loop q')).heap[g]? = w.heap[g]?:=fun g hg=>World.putObj_heap_other hg
 have hk:dg w (MT X σ β) (w.putObj l (.loop q')) (MT X σ β):=by
  refine ⟨fun g o v hc hn=>⟨?_,hn⟩,fun g es c hg hn=>⟨?_,hn⟩⟩
  ·have dX:g≠l:=fun e=>by rw [e] at hc;exact Hs hq hc
   rw [World.cell?_of_block (w:=w) (a:=⟨g,o,none⟩) (hh g dX)];exact hc
  ·have dX:g≠l:=fun e=>by rw [e,hq] at hg;cases hg
   rw [hh g dX];exact hg
 refine ⟨⟨hr.nC,fun b cf hb=>?_,hr.inj,by rw [World.putObj_size];exact hr.size,fun g o hx=>by rw [World.putObj_size];exact hr.p6 g o hx,fun x hx=>by
  obtain ⟨g1,v,hc,g3⟩:=hr.gl x hx
  have dX:x.1≠l:=fun e=>by rw [e] at hc;exact Hs hq hc
  exact ⟨g1,v,by rw [World.cell?_of_block (w:=w) (a:=⟨x.1,x.2.1,none⟩) (hh x.1 dX)];exact hc,g3⟩⟩,hk⟩
 obtain ⟨L,q1,q2,q3,q4⟩:=hr.cf b cf hb
 exact ⟨L,q1,q2,q3,q4.mono hk (fun _ _ h=>h) (hh L.g (wY b cf L hb q1))⟩
theorem HY (hr:cF X base σ β w) {bl:Nat} {ρ:gD} {s s':fS} (hb : σ[bl]? = some (some (.loop (ρ.at s)))) {L:Loc} (hL : β bl=some L) :
  ∃ q:Loop,w.heap[L.g]? = some (.loop q)∧q.state=s.of.1∧q.pending=s.of.2∧q.params = ρ.params∧q.assign = ρ.assign∧q.body = ρ.body∧q.tmps.size = ρ.tm.length∧(∀ k,k < ρ.tm.length→bR w (MT X σ β) β (q.tmps.getD k undef) (ρ.tm.getD k .undef)) ∧
   cF X base (b_ σ bl (.loop (ρ.at s'))) β (w.putObj L.g (.loop { q with state:=s'.of.1,pending:=s'.of.2 })) ∧
   Ext 0 σ β w (b_ σ bl (.loop (ρ.at s'))) β (w.putObj L.g (.loop { q with state:=s'.of.1,pending:=s'.of.2 })):=by
 obtain ⟨L',h1,h2,h3,tmps,dr,fn,h4,h5,h6⟩:=hr.cf bl _ hb
 obtain rfl:=aM (hL.symm.trans h1)
 refine ⟨_,h4,rfl,rfl,rfl,rfl,rfl,h5,h6,?_⟩
 have bD:L.g<w.heap.size:=(aL.1 h4).1
 have nE:∀ off,iQ σ β L.g off:=fun off=>⟨bl,_,L,hb,hL,rfl,trivial⟩
 obtain ⟨k1,k2,k3,k4⟩:=Ec hr bl L (.loop (ρ.at s')) (σ':=b_ σ bl (.loop (ρ.at s'))) (β':=β) (w':=w.putObj L.g (.loop { state:=s'.of.1,pending:=s'.of.2,fn,tmps,params:=ρ.params,assign:=ρ.assign,body:=ρ.body,defers:=dr })) (DY _ _ _)
  (fun c x hc hx=>⟨zJ _ _ _ hc hx,fun Lc CO e=>hc (hr.inj c bl x _ Lc L (zJ _ _ _ hc hx) hb CO hL e)⟩) (A6 _ _ _) hL (fun _ _=>rfl) (.inr hL)
  rfl rfl rfl (pc World.putObj_size.symm) (fun g _ hg=>World.putObj_heap_other hg) (fun off v hc _=>absurd hc (Hs h4))
  (fun _ hn=>absurd (nE 0) (hn 0)) (fun off _=>.inl (nE off)) h3 h2
 refine ⟨k4 ⟨tmps,dr,fn,?_,h5,fun k hk=>(h6 k hk).mono k2 (fun _ _ h=>h)⟩,k1⟩
 simp [World.putObj,bD,gD.at]
theorem JX:∀ (tm:List ae) (ts:List Tmp) (ck:List ae),(pP tm ts ck).length=tm.length
 | tm,[],_=>by simp [pP]
 | tm,_ :: _,[]=>by simp [pP]
 | tm,t :: ts,a :: ck=>by simp [pP,JX (tm.set t a) ts ck]
theorem TN {M:Nat→Nat→Prop}:∀ (ts:List Tmp) (ck:List ae) (vs:List Value) (tm:List ae) (tmps:Array Value),vs.length=ck.length→tmps.size=tm.length→(∀ k,k<ck.length→bR w M β (vs.getD k undef) (ck.getD k .undef)) →
  (∀ k,k<tm.length→bR w M β (tmps.getD k undef) (tm.getD k .undef)) →
  ((ts.zip vs).foldl (fun (tmps:Array Value) (p:Tmp×Value)=>tmps.setIfInBounds p.1 p.2) tmps).size=tm.length ∧
   ∀ k,k<tm.length→bR w M β (((ts.zip vs).foldl (fun (tmps:Array Value) (p:Tmp×Value)=>tmps.setIfInBounds p.1 p.2) tmps).getD k undef) ((pP tm ts ck).getD k .undef)
 | [],ck,vs,tm,tmps,_,hn,_,h=>by
  have:pP tm [] ck=tm:=by cases ck<;>rfl
  rw [this];exact ⟨hn,h⟩
 | t :: ts,[],[],tm,tmps,_,hn,_,h=>⟨hn,h⟩
 | _ :: _,[],_ :: _,_,_,h,_,_,_=>by simp at h
 | _ :: _,_ :: _,[],_,_,h,_,_,_=>by simp at h
 | t :: ts,a :: ck,v :: vs,tm,tmps,hl,hn,hv,h=>by
  have:=TN ts ck vs (tm.set t a) (tmps.setIfInBounds t v) (by simpa using hl) (by simp [hn]) (fun k hk=>by simpa using hv (k+1) (by simp;omega)) (fun k hk=>by
   rw [bh] at hk
   rw [aj,bC]
   by_cases e:t=k
   ·subst e
    rw [if_pos rfl,if_pos (by omega),EU _ _ _ hk]
    simpa using hv 0 (by simp)
   ·rw [if_neg e,← aj,getD_set_ne _ _ _ _ e];exact h k hk)
  rw [bh] at this
  exact this
end
def jm (K:ae→ai→Prop) (n:Nat) (ρ:gD) (bl:Nat) (t:Bool) (s':fS) (σ:ai):Prop :=
 bF σ bl=some (.loop (ρ.at .busy))∧∃ ly,ig ly (b_ σ bl (.loop (ρ.at s')))∧n≤ly.length∧bt ly.length ly∧K (.bool t) ly
def pv (K:ae→ai→Prop) (n:Nat) (ρ:gD) (bl:Nat) (e:cb) (s:St):Prop :=
 match e with
 | .normal=>jm K n ρ bl true .ready s.σ
 | .ret=>jm K n ρ bl false (.done .ret) s.σ
 | .exit id=>jm K n ρ bl false (.done (.exit id)) s.σ
 | .goto l=>jm K n ρ bl false (.done (.goto l)) s.σ
 | .panic _=>False
def xK (P:Program) (K:ae→ai→Prop) (n:Nat) (ρ:gD) (bl:Nat) (e:cb) (s:St):Prop :=
 match e with
 | .normal=>bF s.σ bl=some (.loop (ρ.at .ready))∧ic P ⟨n,some bl⟩ ρ.body ⟨s.tm,b_ s.σ bl (.loop (ρ.at .busy))⟩ (pv K n ρ bl)
 | _=>False
section
variable {P:Program} {σ:ai}
theorem aq.yield {bl:Nat} {ρ:gD} {args:List ae} {K:ae→ai→Prop} (hs:bF σ bl=some (.loop (ρ.at .ready))) (hn : ρ.params.size=args.length)
  (h:ic P ⟨σ.length,some bl⟩ ρ.assign ⟨pP ρ.tm ρ.params.toList args,σ⟩ (xK P K σ.length ρ bl)):aq P (.ld bl) args σ K:=by
 intro X base β w vf vs h1 nD h2 h3 fr cs h4
 cases nD with
 | @ld _ L hL =>
 have zj:=jU hs
 have vY:bl < σ.length:=(aH.1 zj).1
 obtain ⟨q,q1,q2,q3,q4,q5,q6,q7,q8,_⟩:=HY (s':=.busy) h1 zj hL
 obtain ⟨p1,p2⟩:=TN (M:=MT X σ β) ρ.params.toList args vs.toList ρ.tm q.tmps (by simpa using h2) q7 (fun k hk=>by rw [Zob];exact h3 k hk) q8
 have yd:(q.params.zip vs).foldl (fun tmps (t,a)=>tmps.setIfInBounds t a) q.tmps=(ρ.params.toList.zip vs.toList).foldl (fun (tmps:Array Value) (p:Tmp×Value)=>tmps.setIfInBounds p.1 p.2) q.tmps:=by
  rw [q4,← Array.foldl_toList,Array.toList_zip]
 let b:Frame:={ (default:Frame) with fn:=q.fn,kind:=.normal,roundOf:=some L.g }
 let a0:Act:={ tmps:=(q.params.zip vs).foldl (fun tmps (t,a)=>tmps.setIfInBounds t a) q.tmps,defers:=[] }
 have hrel:Rel X base w.heap.size [] ⟨pP ρ.tm ρ.params.toList args,σ⟩ β a0 w:=by
  refine ⟨h1,?_,fun k hk=>?_,⟨[],rfl,kE,fun r hr=>by simp at hr⟩⟩
  ·simp only [a0,yd,p1,JX]
  ·simp only [a0,yd]
   simp only [JX] at hk
   exact p2 k hk
 obtain ⟨e,ka,eS,a1,w1,r1,r2,r3,r4,r5⟩:=h X base w.heap.size [] β a0 w b [.beginRound, .code ρ.body] (fr :: cs) (ah _) (ah _) hrel ⟨vY,L,hL,rfl⟩
 cases e with
 | exit id=>exact r1.elim
 | goto l=>exact r1.elim
 | ret=>exact r1.elim
 | panic u=>exact r1.elim
 | normal =>
 obtain ⟨s1,s2⟩:=r1
 have Mj : eS bl=some L:=(r4.env bl vY).trans hL
 obtain ⟨q',t1,t2,t3,t4,t5,t6,t7,t8,t9,t10⟩:=HY (s':=.busy) r3.s (jU s1) Mj
 have CU:(Instr.beginRound L.g).run P w1 = .ok () (w1.putObj L.g (.loop { q' with state:=(fS.busy).of.1,pending:=(fS.busy).of.2 })):=by
  rw [run_beginRound t1 t2]
  have:q'.pending=none:=t3
  simp only [fS.of,← this]
 have sd:Rel X base w.heap.size [] ⟨ka.tm,b_ ka.σ bl (.loop (ρ.at .busy))⟩ eS a1 (w1.putObj L.g (.loop { q' with state:=(fS.busy).of.1,pending:=(fS.busy).of.2 })) :=
  r3.next t9 t10 (fun _ _ h=>h) (v:=undef) (r:=.undef) (.undef _) none
 generalize re:w1.putObj L.g (.loop { q' with state:=(fS.busy).of.1,pending:=(fS.busy).of.2 })=w2 at *
 obtain ⟨e2,AW,mI,a2,w3,u1,u2,u3,u4,u5⟩:=s2 X base w.heap.size [] eS a1 w2 b [] (fr :: cs) (cR r2 (A6 _ _ _)) (by rw [← re,World.putObj_size];exact r4.size) sd ⟨vY,L,Mj,rfl⟩
 have F0 : mI bl=some L:=(u4.env bl vY).trans Mj
 have FZ:Ext σ.length σ β w AW.σ mI w3:=(r4.trans (Ext.mk t10.os t10.tape t10.output t10.size t10.cell t10.block t10.iC (fun _ _=>rfl))).trans u4
 have fin:∀ (t:Bool) (s':fS) (jump:Option Code),s'.of=((if jump.isNone then .ready else .done),jump)→t=jump.isNone→jm K σ.length ρ bl t s' AW.σ →
   (∀ v w4,(Instr.endRound L.g jump).run P w3 = .ok v w4→Steps P (lone (b.atR a0 [.code ρ.assign, .beginRound, .code ρ.body]) (fr :: cs) w) (lone (fr.finish v) cs w4)) →
   ∃ r σ' β' v w',K r σ'∧cF X base σ' β' w'∧bR w' (MT X σ' β') β' v r∧Ext σ.length σ β w σ' β' w'∧σ.length≤σ'.length∧Fin P fr cs (do let d ← Deferred.ofValue (.func (.yield L.g) #[] #[]) vs;invoke d.target d.args) w v w':=by
  intro t s' jump hof ht hend Dm
  obtain ⟨v1,ly,v2,v3,v4,v5⟩:=hend
  obtain ⟨N7,x1,x2,x3,x4,x5,x6,x7,x8,x9,B3⟩:=HY (s':=s') u3.s (jU v1) F0
  have eO:=run_endRound (P:=P) jump x1
  have hq:({ N7 with state:=s'.of.1,pending:=s'.of.2 }:Loop) = { N7 with state:=if jump.isNone then .ready else .done,pending:=jump }:=by rw [hof]
  rw [hq] at x9 B3
  have fP:=Dm _ _ eO
  generalize hw4:w3.putObj L.g (.loop { N7 with state:=if jump.isNone then .ready else .done,pending:=jump })=w4 at *
  have hE3:Ext σ.length σ β w (b_ AW.σ bl (.loop (ρ.at s'))) mI w4:=FZ.trans (Ext.mk B3.os B3.tape B3.output B3.size B3.cell B3.block B3.iC (fun _ _=>rfl))
  refine ⟨.bool t,ly,_, .bool jump.isNone,w4,v5,x9.drop (u0 v2) rfl (qA v4),by rw [ht];exact .bool _,hE3.drop (u0 v2) rfl v3,v3,?_⟩
  refine ⟨_,_,_,?_,fP⟩
  have Ds:(do let d ← Deferred.ofValue (.func (.yield L.g) #[] #[]) vs;invoke d.target d.args:Sem Next).run P w = .ok (.round L.g q.fn a0.tmps ρ.assign ρ.body) w:=by
   have:=run_yield (P:=P) (args:=#[]++vs++#[]) q1 (by simp [q4,hn,h2])
   simp only [q5,q6] at this
   simp only [Array.empty_append,Array.append_empty] at this
   have e0:(do let d ← Deferred.ofValue (.func (.yield L.g) #[] #[]) vs;invoke d.target d.args:Sem Next)=Instr.yield L.g (#[]++vs++#[]):=rfl
   rw [e0]
   simp only [Array.empty_append,Array.append_empty]
   exact this
  have Vy:∀ d b s a k,fr.todo≠.call d b s a :: k:=h4
  simp only [stepG.apply,if_true,Sem.runT_eq,Ds,GStep.bare_after]
  have hk:(match fr.todo with | .call _ true _ _ :: _=>CallKind.wrapped | _=>.normal) = .normal:=by
   split
   ·rename_i e;exact absurd e (h4 _ _ _ _ _)
   ·rfl
  simp only [hk,GStep.bare]
  rfl
 have qp:Steps P (lone (b.atR a0 [.code ρ.assign, .beginRound, .code ρ.body]) (fr :: cs) w) (lone (b.atR a1 [.code ρ.body]) (fr :: cs) w2):=Steps.trans r5 (.one (stepR_beginRound rfl CU))
 cases e2 with
 | normal=>exact fin true .ready none rfl rfl u1 fun v w4 hr=>qp.trans (Steps.trans u5 (.one (stepR_round_end rfl rfl hr)))
 | ret =>
  obtain ⟨k',eA⟩:=u5
  exact fin false (.done .ret) (some .ret) rfl rfl u1 fun v w4 hr=>qp.trans (Steps.trans eA (.one (stepR_round_ret rfl rfl hr)))
 | exit id =>
  obtain ⟨k',hx,eA⟩:=u5
  exact fin false (.done (.exit id)) (some (.exit id)) rfl rfl u1 fun v w4 hr=>qp.trans (Steps.trans eA (.one (stepR_round_exit rfl rfl hx hr)))
 | panic u=>exact u1.elim
 | goto l =>
  obtain ⟨k',hx,eA⟩:=u5
  exact fin false (.done (.goto l)) (some (.goto l)) rfl rfl u1 fun v w4 hr=>qp.trans (Steps.trans eA (.one (stepR_round_goto rfl rfl hx hr)))
end
end Go.cV
