/- Part 27 of my own framework and of the walks of functions: AcsB. -/
import Derived.Test.YtpgnahcljlclcaaGreatOwn26
import Derived.RangeFuncIn
import Derived.RangeFuncRecord
set_option linter.unusedVariables false
set_option linter.unusedSectionVars false
set_option linter.unusedSimpArgs false
namespace Go.Abs
open Go
def LoopA.at (ρ:LoopA) (s:LState):LoopA:={ ρ with st:=s }
def parA:List AVal→List Tmp→List AVal→List AVal
 | tm,t :: ts,a :: as_=>parA (tm.set t a) ts as_
 | tm,_,_=>tm
section
variable {P:Program} {X:Nat→Nat→Prop} {base:Nat} {σ σ':Store} {β:Env} {w:World}
theorem Zew {w:World} {g o:Nat} {q:Loop} {v:Value} (h:w.heap[g]? = some (.loop q)):w.cell? ⟨g,o,none⟩≠some v:=by
 intro h2
 simp [World.cell?,h] at h2
theorem RelS.less (hr:RelS X base σ β w) (h1:leS σ' σ) (h2 : σ'.length = σ.length):RelS X base σ' β w:=by
 have hk:Keeps w (MT X σ β) w (MT X σ' β):=Keeps.anti fun g o h=>h.imp id fun ⟨b,blk,L,m1,m2,m3,m4⟩=>⟨b,blk,L,h1 b blk m1,m2,m3,m4⟩
 refine ⟨fun b hb=>hr.dom b (by omega),fun b blk hb=>?_,fun b b' x y L L' e1 e2=>hr.inj b b' x y L L' (h1 b x e1) (h1 b' y e2),hr.size,hr.xlt,hr.gl⟩
 obtain ⟨L,q1,q2,q3,q4⟩:=hr.blk b blk (h1 b blk hb)
 exact ⟨L,q1,q2,q3,q4.mono hk (fun _ _ h=>h) rfl⟩
theorem RelS.aside (hr:RelS X base σ β w) {l:Nat} {q q':Loop} (hq:w.heap[l]? = some (.loop q)) (hno:∀ b blk L,σ[b]? = some (some blk)→β b=some L→L.g≠l) (hX:∀ o, ¬ X l o) :
  RelS X base σ β (w.putObj l (.loop q'))∧Keeps w (MT X σ β) (w.putObj l (.loop q')) (MT X σ β):=by
 have hl:l<w.heap.size:=(Array.getElem?_eq_some_iff.1 hq).1
 have hh:∀ g,g≠l→(w.putObj l (.loop q')).heap[g]? = w.heap[g]?:=fun g hg=>World.putObj_heap_other hg
 have hk:Keeps w (MT X σ β) (w.putObj l (.loop q')) (MT X σ β):=by
  refine ⟨fun g o v hc hn=>⟨?_,hn⟩,fun g es c hg hn=>⟨?_,hn⟩⟩
  ·have hne:g≠l:=fun e=>by rw [e] at hc;exact Zew hq hc
   rw [World.cell?_of_block (w:=w) (a:=⟨g,o,none⟩) (hh g hne)];exact hc
  ·have hne:g≠l:=fun e=>by rw [e,hq] at hg;cases hg
   rw [hh g hne];exact hg
 refine ⟨⟨hr.dom,fun b blk hb=>?_,hr.inj,by rw [World.putObj_size];exact hr.size,fun g o hx=>by rw [World.putObj_size];exact hr.xlt g o hx,fun x hx=>by
  obtain ⟨g1,v,hc,g3⟩:=hr.gl x hx
  have hne:x.1≠l:=fun e=>by rw [e] at hc;exact Zew hq hc
  exact ⟨g1,v,by rw [World.cell?_of_block (w:=w) (a:=⟨x.1,x.2.1,none⟩) (hh x.1 hne)];exact hc,g3⟩⟩,hk⟩
 obtain ⟨L,q1,q2,q3,q4⟩:=hr.blk b blk hb
 exact ⟨L,q1,q2,q3,q4.mono hk (fun _ _ h=>h) (hh L.g (hno b blk L hb q1))⟩
theorem Zgt (hr:RelS X base σ β w) {bl:Nat} {ρ:LoopA} {s s':LState} (hb : σ[bl]? = some (some (.loop (ρ.at s)))) {L:Loc} (hL : β bl=some L) :
  ∃ q:Loop,w.heap[L.g]? = some (.loop q)∧q.state=s.of.1∧q.pending=s.of.2∧q.params = ρ.params∧q.assign = ρ.assign∧q.body = ρ.body∧q.tmps.size = ρ.tm.length∧(∀ k,k < ρ.tm.length→Rep w (MT X σ β) β (q.tmps.getD k undef) (ρ.tm.getD k .undef)) ∧
   RelS X base (setS σ bl (.loop (ρ.at s'))) β (w.putObj L.g (.loop { q with state:=s'.of.1,pending:=s'.of.2 })) ∧
   Ext 0 σ β w (setS σ bl (.loop (ρ.at s'))) β (w.putObj L.g (.loop { q with state:=s'.of.1,pending:=s'.of.2 })):=by
 obtain ⟨L',h1,h2,h3,tmps,dr,fn,h4,h5,h6⟩:=hr.blk bl _ hb
 obtain rfl:=Option.some.inj (hL.symm.trans h1)
 refine ⟨_,h4,rfl,rfl,rfl,rfl,rfl,h5,h6,?_⟩
 have hlt:L.g<w.heap.size:=(Array.getElem?_eq_some_iff.1 h4).1
 have hmof:∀ off,Mof σ β L.g off:=fun off=>⟨bl,_,L,hb,hL,rfl,trivial⟩
 obtain ⟨k1,k2,k3,k4⟩:=Zg2 hr bl L (.loop (ρ.at s')) (σ':=setS σ bl (.loop (ρ.at s'))) (β':=β) (w':=w.putObj L.g (.loop { state:=s'.of.1,pending:=s'.of.2,fn,tmps,params:=ρ.params,assign:=ρ.assign,body:=ρ.body,defers:=dr })) (Zeg _ _ _)
  (fun c x hc hx=>⟨Zc5 _ _ _ hc hx,fun Lc hLc e=>hc (hr.inj c bl x _ Lc L (Zc5 _ _ _ hc hx) hb hLc hL e)⟩) (Zc0 _ _ _) hL (fun _ _=>rfl) (.inr hL)
  rfl rfl rfl (Nat.le_of_eq World.putObj_size.symm) (fun g _ hg=>World.putObj_heap_other hg) (fun off v hc _=>absurd hc (Zew h4))
  (fun _ hn=>absurd (hmof 0) (hn 0)) (fun off _=>.inl (hmof off)) h3 h2
 refine ⟨k4 ⟨tmps,dr,fn,?_,h5,fun k hk=>(h6 k hk).mono k2 (fun _ _ h=>h)⟩,k1⟩
 simp [World.putObj,hlt,LoopA.at]
theorem Zgl:∀ (tm:List AVal) (ts:List Tmp) (as_:List AVal),(parA tm ts as_).length=tm.length
 | tm,[],_=>by simp [parA]
 | tm,_ :: _,[]=>by simp [parA]
 | tm,t :: ts,a :: as_=>by simp [parA,Zgl (tm.set t a) ts as_]
theorem Zta {M:Nat→Nat→Prop}:∀ (ts:List Tmp) (as_:List AVal) (vs:List Value) (tm:List AVal) (tmps:Array Value),vs.length=as_.length→tmps.size=tm.length→(∀ k,k<as_.length→Rep w M β (vs.getD k undef) (as_.getD k .undef)) →
  (∀ k,k<tm.length→Rep w M β (tmps.getD k undef) (tm.getD k .undef)) →
  ((ts.zip vs).foldl (fun (tmps:Array Value) (p:Tmp×Value)=>tmps.setIfInBounds p.1 p.2) tmps).size=tm.length ∧
   ∀ k,k<tm.length→Rep w M β (((ts.zip vs).foldl (fun (tmps:Array Value) (p:Tmp×Value)=>tmps.setIfInBounds p.1 p.2) tmps).getD k undef) ((parA tm ts as_).getD k .undef)
 | [],as_,vs,tm,tmps,_,hn,_,h=>by
  have:parA tm [] as_=tm:=by cases as_<;>rfl
  rw [this];exact ⟨hn,h⟩
 | t :: ts,[],[],tm,tmps,_,hn,_,h=>⟨hn,h⟩
 | _ :: _,[],_ :: _,_,_,h,_,_,_=>by simp at h
 | _ :: _,_ :: _,[],_,_,h,_,_,_=>by simp at h
 | t :: ts,a :: as_,v :: vs,tm,tmps,hl,hn,hv,h=>by
  have:=Zta ts as_ vs (tm.set t a) (tmps.setIfInBounds t v) (by simpa using hl) (by simp [hn]) (fun k hk=>by simpa using hv (k+1) (by simp;omega)) (fun k hk=>by
   rw [List.length_set] at hk
   rw [Array.getD_eq_getD_getElem?,Array.getElem?_setIfInBounds]
   by_cases e:t=k
   ·subst e
    rw [if_pos rfl,if_pos (by omega),Zcm _ _ _ hk]
    simpa using hv 0 (by simp)
   ·rw [if_neg e,← Array.getD_eq_getD_getElem?,getD_set_ne _ _ _ _ e];exact h k hk)
  rw [List.length_set] at this
  exact this
end
def roundEnd (K:AVal→Store→Prop) (n:Nat) (ρ:LoopA) (bl:Nat) (t:Bool) (s':LState) (σ:Store):Prop :=
 getS σ bl=some (.loop (ρ.at .busy))∧∃ σ3,leSo σ3 (setS σ bl (.loop (ρ.at s')))∧n≤σ3.length∧lowSo σ3.length σ3∧K (.bool t) σ3
def bodyYQ (K:AVal→Store→Prop) (n:Nat) (ρ:LoopA) (bl:Nat) (e:AExit) (s:St):Prop :=
 match e with
 | .normal=>roundEnd K n ρ bl true .ready s.σ
 | .ret=>roundEnd K n ρ bl false (.done .ret) s.σ
 | .exit id=>roundEnd K n ρ bl false (.done (.exit id)) s.σ
 | .goto l=>roundEnd K n ρ bl false (.done (.goto l)) s.σ
 | .panic _=>False
def assignYQ (P:Program) (K:AVal→Store→Prop) (n:Nat) (ρ:LoopA) (bl:Nat) (e:AExit) (s:St):Prop :=
 match e with
 | .normal=>getS s.σ bl=some (.loop (ρ.at .ready))∧EvS P ⟨n,some bl⟩ ρ.body ⟨s.tm,setS s.σ bl (.loop (ρ.at .busy))⟩ (bodyYQ K n ρ bl)
 | _=>False
section
variable {P:Program} {σ:Store}
theorem VCall.yield {bl:Nat} {ρ:LoopA} {args:List AVal} {K:AVal→Store→Prop} (hs:getS σ bl=some (.loop (ρ.at .ready))) (hn : ρ.params.size=args.length)
  (h:EvS P ⟨σ.length,some bl⟩ ρ.assign ⟨parA ρ.tm ρ.params.toList args,σ⟩ (assignYQ P K σ.length ρ bl)):VCall P (.yld bl) args σ K:=by
 intro X base β w vf vs h1 h1' h2 h3 fr cs h4
 cases h1' with
 | @yld _ L hL =>
 have hbs:=Zae hs
 have hbl:bl < σ.length:=(List.getElem?_eq_some_iff.1 hbs).1
 obtain ⟨q,q1,q2,q3,q4,q5,q6,q7,q8,_⟩:=Zgt (s':=.busy) h1 hbs hL
 obtain ⟨p1,p2⟩:=Zta (M:=MT X σ β) ρ.params.toList args vs.toList ρ.tm q.tmps (by simpa using h2) q7 (fun k hk=>by rw [Zn8];exact h3 k hk) q8
 have hfold:(q.params.zip vs).foldl (fun tmps (t,a)=>tmps.setIfInBounds t a) q.tmps=(ρ.params.toList.zip vs.toList).foldl (fun (tmps:Array Value) (p:Tmp×Value)=>tmps.setIfInBounds p.1 p.2) q.tmps:=by
  rw [q4,← Array.foldl_toList,Array.toList_zip]
 let b:Frame:={ (default:Frame) with fn:=q.fn,kind:=.normal,roundOf:=some L.g }
 let a0:Act:={ tmps:=(q.params.zip vs).foldl (fun tmps (t,a)=>tmps.setIfInBounds t a) q.tmps,defers:=[] }
 have hrel:Rel X base w.heap.size [] ⟨parA ρ.tm ρ.params.toList args,σ⟩ β a0 w:=by
  refine ⟨h1,?_,fun k hk=>?_,⟨[],rfl,List.nodup_nil,fun r hr=>by simp at hr⟩⟩
  ·simp only [a0,hfold,p1,Zgl]
  ·simp only [a0,hfold]
   simp only [Zgl] at hk
   exact p2 k hk
 obtain ⟨e,st1,β1,a1,w1,r1,r2,r3,r4,r5⟩:=h X base w.heap.size [] β a0 w b [.beginRound, .code ρ.body] (fr :: cs) (Nat.le_refl _) (Nat.le_refl _) hrel ⟨hbl,L,hL,rfl⟩
 cases e with
 | exit id=>exact r1.elim
 | goto l=>exact r1.elim
 | ret=>exact r1.elim
 | panic u=>exact r1.elim
 | normal =>
 obtain ⟨s1,s2⟩:=r1
 have hL1 : β1 bl=some L:=(r4.env bl hbl).trans hL
 obtain ⟨q',t1,t2,t3,t4,t5,t6,t7,t8,t9,t10⟩:=Zgt (s':=.busy) r3.s (Zae s1) hL1
 have hbegin:(Instr.beginRound L.g).run P w1 = .ok () (w1.putObj L.g (.loop { q' with state:=(LState.busy).of.1,pending:=(LState.busy).of.2 })):=by
  rw [run_beginRound t1 t2]
  have:q'.pending=none:=t3
  simp only [LState.of,← this]
 have hrel2:Rel X base w.heap.size [] ⟨st1.tm,setS st1.σ bl (.loop (ρ.at .busy))⟩ β1 a1 (w1.putObj L.g (.loop { q' with state:=(LState.busy).of.1,pending:=(LState.busy).of.2 })) :=
  r3.next t9 t10 (fun _ _ h=>h) (v:=undef) (r:=.undef) (.undef _) none
 generalize hw2:w1.putObj L.g (.loop { q' with state:=(LState.busy).of.1,pending:=(LState.busy).of.2 })=w2 at *
 obtain ⟨e2,st2,β2,a2,w3,u1,u2,u3,u4,u5⟩:=s2 X base w.heap.size [] β1 a1 w2 b [] (fr :: cs) (Nat.le_trans r2 (Zc0 _ _ _)) (by rw [← hw2,World.putObj_size];exact r4.size) hrel2 ⟨hbl,L,hL1,rfl⟩
 have hL2 : β2 bl=some L:=(u4.env bl hbl).trans hL1
 have hE2:Ext σ.length σ β w st2.σ β2 w3:=(r4.trans (Ext.mk t10.os t10.tape t10.output t10.size t10.cell t10.block t10.newM (fun _ _=>rfl))).trans u4
 have fin:∀ (t:Bool) (s':LState) (jump:Option Code),s'.of=((if jump.isNone then .ready else .done),jump)→t=jump.isNone→roundEnd K σ.length ρ bl t s' st2.σ →
   (∀ v w4,(Instr.endRound L.g jump).run P w3 = .ok v w4→Steps P (lone (b.atR a0 [.code ρ.assign, .beginRound, .code ρ.body]) (fr :: cs) w) (lone (fr.finish v) cs w4)) →
   ∃ r σ' β' v w',K r σ'∧RelS X base σ' β' w'∧Rep w' (MT X σ' β') β' v r∧Ext σ.length σ β w σ' β' w'∧σ.length≤σ'.length∧Fin P fr cs (do let d ← Deferred.ofValue (.func (.yield L.g) #[] #[]) vs;invoke d.target d.args) w v w':=by
  intro t s' jump hof ht hend hsteps
  obtain ⟨v1,σ3,v2,v3,v4,v5⟩:=hend
  obtain ⟨q2',x1,x2,x3,x4,x5,x6,x7,x8,x9,x10⟩:=Zgt (s':=s') u3.s (Zae v1) hL2
  have hrun:=run_endRound (P:=P) jump x1
  have hq:({ q2' with state:=s'.of.1,pending:=s'.of.2 }:Loop) = { q2' with state:=if jump.isNone then .ready else .done,pending:=jump }:=by rw [hof]
  rw [hq] at x9 x10
  have hst:=hsteps _ _ hrun
  generalize hw4:w3.putObj L.g (.loop { q2' with state:=if jump.isNone then .ready else .done,pending:=jump })=w4 at *
  have hE3:Ext σ.length σ β w (setS st2.σ bl (.loop (ρ.at s'))) β2 w4:=hE2.trans (Ext.mk x10.os x10.tape x10.output x10.size x10.cell x10.block x10.newM (fun _ _=>rfl))
  refine ⟨.bool t,σ3,_, .bool jump.isNone,w4,v5,x9.drop (Zbu v2) rfl (Zat v4),by rw [ht];exact .bool _,hE3.drop (Zbu v2) rfl v3,v3,?_⟩
  refine ⟨_,_,_,?_,hst⟩
  have hyield:(do let d ← Deferred.ofValue (.func (.yield L.g) #[] #[]) vs;invoke d.target d.args:Sem Next).run P w = .ok (.round L.g q.fn a0.tmps ρ.assign ρ.body) w:=by
   have:=run_yield (P:=P) (args:=#[]++vs++#[]) q1 (by simp [q4,hn,h2])
   simp only [q5,q6] at this
   simp only [Array.empty_append,Array.append_empty] at this
   have e0:(do let d ← Deferred.ofValue (.func (.yield L.g) #[] #[]) vs;invoke d.target d.args:Sem Next)=Instr.yield L.g (#[]++vs++#[]):=rfl
   rw [e0]
   simp only [Array.empty_append,Array.append_empty]
   exact this
  have hkind:∀ d b s a k,fr.todo≠.call d b s a :: k:=h4
  simp only [stepG.apply,if_true,Sem.runT_eq,hyield,GStep.bare_after]
  have hk:(match fr.todo with | .call _ true _ _ :: _=>CallKind.wrapped | _=>.normal) = .normal:=by
   split
   ·rename_i e;exact absurd e (h4 _ _ _ _ _)
   ·rfl
  simp only [hk,GStep.bare]
  rfl
 have hbegin':Steps P (lone (b.atR a0 [.code ρ.assign, .beginRound, .code ρ.body]) (fr :: cs) w) (lone (b.atR a1 [.code ρ.body]) (fr :: cs) w2):=Steps.trans r5 (.one (stepR_beginRound rfl hbegin))
 cases e2 with
 | normal=>exact fin true .ready none rfl rfl u1 fun v w4 hr=>hbegin'.trans (Steps.trans u5 (.one (stepR_round_end rfl rfl hr)))
 | ret =>
  obtain ⟨k',hk'⟩:=u5
  exact fin false (.done .ret) (some .ret) rfl rfl u1 fun v w4 hr=>hbegin'.trans (Steps.trans hk' (.one (stepR_round_ret rfl rfl hr)))
 | exit id =>
  obtain ⟨k',hx,hk'⟩:=u5
  exact fin false (.done (.exit id)) (some (.exit id)) rfl rfl u1 fun v w4 hr=>hbegin'.trans (Steps.trans hk' (.one (stepR_round_exit rfl rfl hx hr)))
 | panic u=>exact u1.elim
 | goto l =>
  obtain ⟨k',hx,hk'⟩:=u5
  exact fin false (.done (.goto l)) (some (.goto l)) rfl rfl u1 fun v w4 hr=>hbegin'.trans (Steps.trans hk' (.one (stepR_round_goto rfl rfl hx hr)))
end
end Go.Abs
