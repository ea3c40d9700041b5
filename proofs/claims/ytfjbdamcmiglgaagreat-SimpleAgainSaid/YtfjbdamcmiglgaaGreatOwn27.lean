/- Part 27 of my own framework and of the walks of functions: AcsB. -/
import Derived.Test.YtfjbdamcmiglgaaGreatOwn26
import Derived.RangeFuncIn
import Derived.RangeFuncRecord
set_option linter.unusedVariables false
set_option linter.unusedSectionVars false
set_option linter.unusedSimpArgs false
namespace Go.c8
open Go
def gQ.at (ρ:gQ) (s:gq):gQ:={ ρ with st:=s }
def pX:List ae→List Tmp→List ae→List ae
 | tm,t :: ts,a :: cm=>pX (tm.set t a) ts cm
 | tm,_,_=>tm
section
variable {P:Program} {X:Nat→Nat→Prop} {base:Nat} {σ σ':ai} {β:Env} {w:World}
theorem HS {w:World} {g o:Nat} {q:Loop} {v:Value} (h:w.heap[g]? = some (.loop q)):w.cell? ⟨g,o,none⟩≠some v:=by
 intro h2
 simp [World.cell?,h] at h2
theorem cH.less (hr:cH X base σ β w) (h1:xI σ' σ) (h2 : σ'.length = σ.length):cH X base σ' β w:=by
 have hk:di w (MT X σ β) w (MT X σ' β):=di.l5 fun g o h=>h.imp id fun ⟨b,cg,L,m1,m2,m3,m4⟩=>⟨b,cg,L,h1 b cg m1,m2,m3,m4⟩
 refine ⟨fun b hb=>hr.nO b (by omega),fun b cg hb=>?_,fun b b' x y L L' e1 e2=>hr.inj b b' x y L L' (h1 b x e1) (h1 b' y e2),hr.size,hr.qd,hr.gl⟩
 obtain ⟨L,q1,q2,q3,q4⟩:=hr.cg b cg (h1 b cg hb)
 exact ⟨L,q1,q2,q3,q4.mono hk (fun _ _ h=>h) rfl⟩
theorem cH.aside (hr:cH X base σ β w) {l:Nat} {q q':Loop} (hq:w.heap[l]? = some (.loop q)) (xc:∀ b cg L,σ[b]? = some (some cg)→β b=some L→L.g≠l) (hX:∀ o, ¬ X l o) :
  cH X base σ β (w.putObj l (.loop q'))∧di w (MT X σ β) (w.putObj l (.loop q')) (MT X σ β):=by
 have hl:l<w.heap.size:=(aL.1 hq).1
 have hh:∀ g,g≠l→(w.putObj l (.loop q')).heap[g]? = w.heap[g]?:=fun g hg=>World.putObj_heap_other hg
 have hk:di w (MT X σ β) (w.putObj l (.loop q')) (MT X σ β):=by
  refine ⟨fun g o v hc hn=>⟨?_,hn⟩,fun g es c hg hn=>⟨?_,hn⟩⟩
  ·have ep:g≠l:=fun e=>by rw [e] at hc;exact HS hq hc
   rw [World.cell?_of_block (w:=w) (a:=⟨g,o,none⟩) (hh g ep)];exact hc
  ·have ep:g≠l:=fun e=>by rw [e,hq] at hg;cases hg
   rw [hh g ep];exact hg
 refine ⟨⟨hr.nO,fun b cg hb=>?_,hr.inj,by rw [World.putObj_size];exact hr.size,fun g o hx=>by rw [World.putObj_size];exact hr.qd g o hx,fun x hx=>by
  obtain ⟨g1,v,hc,g3⟩:=hr.gl x hx
  have ep:x.1≠l:=fun e=>by rw [e] at hc;exact HS hq hc
  exact ⟨g1,v,by rw [World.cell?_of_block (w:=w) (a:=⟨x.1,x.2.1,none⟩) (hh x.1 ep)];exact hc,g3⟩⟩,hk⟩
 obtain ⟨L,q1,q2,q3,q4⟩:=hr.cg b cg hb
 exact ⟨L,q1,q2,q3,q4.mono hk (fun _ _ h=>h) (hh L.g (xc b cg L hb q1))⟩
theorem H7 (hr:cH X base σ β w) {bl:Nat} {ρ:gQ} {s s':gq} (hb : σ[bl]? = some (some (.loop (ρ.at s)))) {L:Loc} (hL : β bl=some L) :
  ∃ q:Loop,w.heap[L.g]? = some (.loop q)∧q.state=s.of.1∧q.pending=s.of.2∧q.params = ρ.params∧q.assign = ρ.assign∧q.body = ρ.body∧q.tmps.size = ρ.tm.length∧(∀ k,k < ρ.tm.length→bS w (MT X σ β) β (q.tmps.getD k undef) (ρ.tm.getD k .undef)) ∧
   cH X base (b_ σ bl (.loop (ρ.at s'))) β (w.putObj L.g (.loop { q with state:=s'.of.1,pending:=s'.of.2 })) ∧
   Ext 0 σ β w (b_ σ bl (.loop (ρ.at s'))) β (w.putObj L.g (.loop { q with state:=s'.of.1,pending:=s'.of.2 })):=by
 obtain ⟨L',h1,h2,h3,tmps,dr,fn,h4,h5,h6⟩:=hr.cg bl _ hb
 obtain rfl:=aN (hL.symm.trans h1)
 refine ⟨_,h4,rfl,rfl,rfl,rfl,rfl,h5,h6,?_⟩
 have bG:L.g<w.heap.size:=(aL.1 h4).1
 have nQ:∀ off,ja σ β L.g off:=fun off=>⟨bl,_,L,hb,hL,rfl,trivial⟩
 obtain ⟨k1,k2,k3,k4⟩:=Em hr bl L (.loop (ρ.at s')) (σ':=b_ σ bl (.loop (ρ.at s'))) (β':=β) (w':=w.putObj L.g (.loop { state:=s'.of.1,pending:=s'.of.2,fn,tmps,params:=ρ.params,assign:=ρ.assign,body:=ρ.body,defers:=dr })) (D_ _ _ _)
  (fun c x hc hx=>⟨zV _ _ _ hc hx,fun Lc CY e=>hc (hr.inj c bl x _ Lc L (zV _ _ _ hc hx) hb CY hL e)⟩) (Bh _ _ _) hL (fun _ _=>rfl) (.inr hL)
  rfl rfl rfl (pC World.putObj_size.symm) (fun g _ hg=>World.putObj_heap_other hg) (fun off v hc _=>absurd hc (HS h4))
  (fun _ hn=>absurd (nQ 0) (hn 0)) (fun off _=>.inl (nQ off)) h3 h2
 refine ⟨k4 ⟨tmps,dr,fn,?_,h5,fun k hk=>(h6 k hk).mono k2 (fun _ _ h=>h)⟩,k1⟩
 simp [World.putObj,bG,gQ.at]
theorem Kf:∀ (tm:List ae) (ts:List Tmp) (cm:List ae),(pX tm ts cm).length=tm.length
 | tm,[],_=>by simp [pX]
 | tm,_ :: _,[]=>by simp [pX]
 | tm,t :: ts,a :: cm=>by simp [pX,Kf (tm.set t a) ts cm]
theorem Vm {M:Nat→Nat→Prop}:∀ (ts:List Tmp) (cm:List ae) (vs:List Value) (tm:List ae) (tmps:Array Value),vs.length=cm.length→tmps.size=tm.length→(∀ k,k<cm.length→bS w M β (vs.getD k undef) (cm.getD k .undef)) →
  (∀ k,k<tm.length→bS w M β (tmps.getD k undef) (tm.getD k .undef)) →
  ((ts.zip vs).foldl (fun (tmps:Array Value) (p:Tmp×Value)=>tmps.setIfInBounds p.1 p.2) tmps).size=tm.length ∧
   ∀ k,k<tm.length→bS w M β (((ts.zip vs).foldl (fun (tmps:Array Value) (p:Tmp×Value)=>tmps.setIfInBounds p.1 p.2) tmps).getD k undef) ((pX tm ts cm).getD k .undef)
 | [],cm,vs,tm,tmps,_,hn,_,h=>by
  have:pX tm [] cm=tm:=by cases cm<;>rfl
  rw [this];exact ⟨hn,h⟩
 | t :: ts,[],[],tm,tmps,_,hn,_,h=>⟨hn,h⟩
 | _ :: _,[],_ :: _,_,_,h,_,_,_=>by simp at h
 | _ :: _,_ :: _,[],_,_,h,_,_,_=>by simp at h
 | t :: ts,a :: cm,v :: vs,tm,tmps,hl,hn,hv,h=>by
  have:=Vm ts cm vs (tm.set t a) (tmps.setIfInBounds t v) (by simpa using hl) (by simp [hn]) (fun k hk=>by simpa using hv (k+1) (by simp;omega)) (fun k hk=>by
   rw [bg] at hk
   rw [aj,bD]
   by_cases e:t=k
   ·subst e
    rw [if_pos rfl,if_pos (by omega),Fb _ _ _ hk]
    simpa using hv 0 (by simp)
   ·rw [if_neg e,← aj,getD_set_ne _ _ _ _ e];exact h k hk)
  rw [bg] at this
  exact this
end
def jA (K:ae→ai→Prop) (n:Nat) (ρ:gQ) (bl:Nat) (t:Bool) (s':gq) (σ:ai):Prop :=
 bH σ bl=some (.loop (ρ.at .busy))∧∃ lO,iy lO (b_ σ bl (.loop (ρ.at s')))∧n≤lO.length∧bw lO.length lO∧K (.bool t) lO
def pF (K:ae→ai→Prop) (n:Nat) (ρ:gQ) (bl:Nat) (e:cb) (s:St):Prop :=
 match e with
 | .normal=>jA K n ρ bl true .ready s.σ
 | .ret=>jA K n ρ bl false (.done .ret) s.σ
 | .exit id=>jA K n ρ bl false (.done (.exit id)) s.σ
 | .goto l=>jA K n ρ bl false (.done (.goto l)) s.σ
 | .panic _=>False
def xV (P:Program) (K:ae→ai→Prop) (n:Nat) (ρ:gQ) (bl:Nat) (e:cb) (s:St):Prop :=
 match e with
 | .normal=>bH s.σ bl=some (.loop (ρ.at .ready))∧iw P ⟨n,some bl⟩ ρ.body ⟨s.tm,b_ s.σ bl (.loop (ρ.at .busy))⟩ (pF K n ρ bl)
 | _=>False
section
variable {P:Program} {σ:ai}
theorem aq.yield {bl:Nat} {ρ:gQ} {args:List ae} {K:ae→ai→Prop} (hs:bH σ bl=some (.loop (ρ.at .ready))) (hn : ρ.params.size=args.length)
  (h:iw P ⟨σ.length,some bl⟩ ρ.assign ⟨pX ρ.tm ρ.params.toList args,σ⟩ (xV P K σ.length ρ bl)):aq P (.lz bl) args σ K:=by
 intro X base β w vf vs h1 nP h2 h3 fr cs h4
 cases nP with
 | @lz _ L hL =>
 have zw:=j_ hs
 have wu:bl < σ.length:=(aI.1 zw).1
 obtain ⟨q,q1,q2,q3,q4,q5,q6,q7,q8,_⟩:=H7 (s':=.busy) h1 zw hL
 obtain ⟨p1,p2⟩:=Vm (M:=MT X σ β) ρ.params.toList args vs.toList ρ.tm q.tmps (by simpa using h2) q7 (fun k hk=>by rw [Zpv];exact h3 k hk) q8
 have yo:(q.params.zip vs).foldl (fun tmps (t,a)=>tmps.setIfInBounds t a) q.tmps=(ρ.params.toList.zip vs.toList).foldl (fun (tmps:Array Value) (p:Tmp×Value)=>tmps.setIfInBounds p.1 p.2) q.tmps:=by
  rw [q4,← Array.foldl_toList,Array.toList_zip]
 let b:Frame:={ (default:Frame) with fn:=q.fn,kind:=.normal,roundOf:=some L.g }
 let a0:Act:={ tmps:=(q.params.zip vs).foldl (fun tmps (t,a)=>tmps.setIfInBounds t a) q.tmps,defers:=[] }
 have hrel:Rel X base w.heap.size [] ⟨pX ρ.tm ρ.params.toList args,σ⟩ β a0 w:=by
  refine ⟨h1,?_,fun k hk=>?_,⟨[],rfl,kU,fun r hr=>by simp at hr⟩⟩
  ·simp only [a0,yo,p1,Kf]
  ·simp only [a0,yo]
   simp only [Kf] at hk
   exact p2 k hk
 obtain ⟨e,kp,eX,a1,w1,r1,r2,r3,r4,r5⟩:=h X base w.heap.size [] β a0 w b [.beginRound, .code ρ.body] (fr :: cs) (ah _) (ah _) hrel ⟨wu,L,hL,rfl⟩
 cases e with
 | exit id=>exact r1.elim
 | goto l=>exact r1.elim
 | ret=>exact r1.elim
 | panic u=>exact r1.elim
 | normal =>
 obtain ⟨s1,s2⟩:=r1
 have ML : eX bl=some L:=(r4.env bl wu).trans hL
 obtain ⟨q',t1,t2,t3,t4,t5,t6,t7,t8,t9,t10⟩:=H7 (s':=.busy) r3.s (j_ s1) ML
 have C3:(Instr.beginRound L.g).run P w1 = .ok () (w1.putObj L.g (.loop { q' with state:=(gq.busy).of.1,pending:=(gq.busy).of.2 })):=by
  rw [run_beginRound t1 t2]
  have:q'.pending=none:=t3
  simp only [gq.of,← this]
 have sx:Rel X base w.heap.size [] ⟨kp.tm,b_ kp.σ bl (.loop (ρ.at .busy))⟩ eX a1 (w1.putObj L.g (.loop { q' with state:=(gq.busy).of.1,pending:=(gq.busy).of.2 })) :=
  r3.next t9 t10 (fun _ _ h=>h) (v:=undef) (r:=.undef) (.undef _) none
 generalize r8:w1.putObj L.g (.loop { q' with state:=(gq.busy).of.1,pending:=(gq.busy).of.2 })=w2 at *
 obtain ⟨e2,A8,mV,a2,w3,u1,u2,u3,u4,u5⟩:=s2 X base w.heap.size [] eX a1 w2 b [] (fr :: cs) (cV r2 (Bh _ _ _)) (by rw [← r8,World.putObj_size];exact r4.size) sx ⟨wu,L,ML,rfl⟩
 have Gl : mV bl=some L:=(u4.env bl wu).trans ML
 have Gk:Ext σ.length σ β w A8.σ mV w3:=(r4.trans (Ext.mk t10.os t10.tape t10.output t10.size t10.cell t10.block t10.iL (fun _ _=>rfl))).trans u4
 have fin:∀ (t:Bool) (s':gq) (jump:Option Code),s'.of=((if jump.isNone then .ready else .done),jump)→t=jump.isNone→jA K σ.length ρ bl t s' A8.σ →
   (∀ v w4,(Instr.endRound L.g jump).run P w3 = .ok v w4→Steps P (lone (b.atR a0 [.code ρ.assign, .beginRound, .code ρ.body]) (fr :: cs) w) (lone (fr.finish v) cs w4)) →
   ∃ r σ' β' v w',K r σ'∧cH X base σ' β' w'∧bS w' (MT X σ' β') β' v r∧Ext σ.length σ β w σ' β' w'∧σ.length≤σ'.length∧Fin P fr cs (do let d ← Deferred.ofValue (.func (.yield L.g) #[] #[]) vs;invoke d.target d.args) w v w':=by
  intro t s' jump hof ht hend Dy
  obtain ⟨v1,lO,v2,v3,v4,v5⟩:=hend
  obtain ⟨Oz,x1,x2,x3,x4,x5,x6,x7,x8,x9,Ca⟩:=H7 (s':=s') u3.s (j_ v1) Gl
  have eS:=run_endRound (P:=P) jump x1
  have hq:({ Oz with state:=s'.of.1,pending:=s'.of.2 }:Loop) = { Oz with state:=if jump.isNone then .ready else .done,pending:=jump }:=by rw [hof]
  rw [hq] at x9 Ca
  have fT:=Dy _ _ eS
  generalize hw4:w3.putObj L.g (.loop { Oz with state:=if jump.isNone then .ready else .done,pending:=jump })=w4 at *
  have hE3:Ext σ.length σ β w (b_ A8.σ bl (.loop (ρ.at s'))) mV w4:=Gk.trans (Ext.mk Ca.os Ca.tape Ca.output Ca.size Ca.cell Ca.block Ca.iL (fun _ _=>rfl))
  refine ⟨.bool t,lO,_, .bool jump.isNone,w4,v5,x9.drop (vj v2) rfl (qL v4),by rw [ht];exact .bool _,hE3.drop (vj v2) rfl v3,v3,?_⟩
  refine ⟨_,_,_,?_,fT⟩
  have DH:(do let d ← Deferred.ofValue (.func (.yield L.g) #[] #[]) vs;invoke d.target d.args:Sem Next).run P w = .ok (.round L.g q.fn a0.tmps ρ.assign ρ.body) w:=by
   have:=run_yield (P:=P) (args:=#[]++vs++#[]) q1 (by simp [q4,hn,h2])
   simp only [q5,q6] at this
   simp only [Array.empty_append,Array.append_empty] at this
   have e0:(do let d ← Deferred.ofValue (.func (.yield L.g) #[] #[]) vs;invoke d.target d.args:Sem Next)=Instr.yield L.g (#[]++vs++#[]):=rfl
   rw [e0]
   simp only [Array.empty_append,Array.append_empty]
   exact this
  have WE:∀ d b s a k,fr.todo≠.call d b s a :: k:=h4
  simp only [stepG.apply,if_true,Sem.runT_eq,DH,GStep.bare_after]
  have hk:(match fr.todo with | .call _ true _ _ :: _=>CallKind.wrapped | _=>.normal) = .normal:=by
   split
   ·rename_i e;exact absurd e (h4 _ _ _ _ _)
   ·rfl
  simp only [hk,GStep.bare]
  rfl
 have qz:Steps P (lone (b.atR a0 [.code ρ.assign, .beginRound, .code ρ.body]) (fr :: cs) w) (lone (b.atR a1 [.code ρ.body]) (fr :: cs) w2):=Steps.trans r5 (.one (stepR_beginRound rfl C3))
 cases e2 with
 | normal=>exact fin true .ready none rfl rfl u1 fun v w4 hr=>qz.trans (Steps.trans u5 (.one (stepR_round_end rfl rfl hr)))
 | ret =>
  obtain ⟨k',eE⟩:=u5
  exact fin false (.done .ret) (some .ret) rfl rfl u1 fun v w4 hr=>qz.trans (Steps.trans eE (.one (stepR_round_ret rfl rfl hr)))
 | exit id =>
  obtain ⟨k',hx,eE⟩:=u5
  exact fin false (.done (.exit id)) (some (.exit id)) rfl rfl u1 fun v w4 hr=>qz.trans (Steps.trans eE (.one (stepR_round_exit rfl rfl hx hr)))
 | panic u=>exact u1.elim
 | goto l =>
  obtain ⟨k',hx,eE⟩:=u5
  exact fin false (.done (.goto l)) (some (.goto l)) rfl rfl u1 fun v w4 hr=>qz.trans (Steps.trans eE (.one (stepR_round_goto rfl rfl hx hr)))
end
end Go.c8
