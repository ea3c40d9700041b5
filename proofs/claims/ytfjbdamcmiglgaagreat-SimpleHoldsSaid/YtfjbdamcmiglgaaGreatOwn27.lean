/- Part 27 of my own framework and of the walks of functions: AcsB. -/
import Derived.Test.YtfjbdamcmiglgaaGreatOwn26
import Derived.RangeFuncIn
import Derived.RangeFuncRecord
set_option linter.unusedVariables false
set_option linter.unusedSectionVars false
set_option linter.unusedSimpArgs false
namespace Go.dm
open Go
def ic.at (ρ:ic) (s:gJ):ic:={ ρ with st:=s }
def qs:List ah→List Tmp→List ah→List ah
 | tm,t :: ts,a :: cD=>qs (tm.set t a) ts cD
 | tm,_,_=>tm
section
variable {P:Program} {X:Nat→Nat→Prop} {base:Nat} {σ σ':ai} {β:Env} {w:World}
theorem IL {w:World} {g o:Nat} {q:Loop} {v:Value} (h:w.heap[g]? = some (.loop q)):w.cell? ⟨g,o,none⟩≠some v:=by
 intro h2;simp [World.cell?,h] at h2
theorem cS.less (hr:cS X base σ β w) (h1:yB σ' σ) (h2 : σ'.length = σ.length):cS X base σ' β w:=by
 have hk:dD w (MT X σ β) w (MT X σ' β):=dD.mh fun g o h=>h.imp id fun ⟨b,cw,L,m1,m2,m3,m4⟩=>⟨b,cw,L,h1 b cw m1,m2,m3,m4⟩;refine ⟨fun b hb=>hr.oo b (by omega),fun b cw hb=>?_,fun b b' x y L L' e1 e2=>hr.inj b b' x y L L' (h1 b x e1) (h1 b' y e2),hr.size,hr.qL,hr.gl⟩;obtain ⟨L,q1,q2,q3,q4⟩:=hr.cw b cw (h1 b cw hb);exact ⟨L,q1,q2,q3,q4.mono hk (fun _ _ h=>h) rfl⟩
theorem cS.aside (hr:cS X base σ β w) {l:Nat} {q q':Loop} (hq:w.heap[l]? = some (.loop q)) (xX:∀ b cw L,σ[b]? = some (some cw)→β b=some L→L.g≠l) (hX:∀ o, ¬ X l o) :
  cS X base σ β (w.putObj l (.loop q'))∧dD w (MT X σ β) (w.putObj l (.loop q')) (MT X σ β):=by
 have hl:l<w.heap.size:=(aO.1 hq).1;have hh:∀ g,g≠l→(w.putObj l (.loop q')).heap[g]? = w.heap[g]?:=fun g hg=>World.putObj_heap_other hg;have hk:dD w (MT X σ β) (w.putObj l (.loop q')) (MT X σ β):=by
  refine ⟨fun g o v hc hn=>⟨?_,hn⟩,fun g es c hg hn=>⟨?_,hn⟩⟩
  ·have eH:g≠l:=fun e=>by rw [e] at hc;exact IL hq hc
   rw [World.cell?_of_block (w:=w) (a:=⟨g,o,none⟩) (hh g eH)];exact hc
  ·have eH:g≠l:=fun e=>by rw [e,hq] at hg;cases hg
   rw [hh g eH];exact hg
 refine ⟨⟨hr.oo,fun b cw hb=>?_,hr.inj,by rw [World.putObj_size];exact hr.size,fun g o hx=>by rw [World.putObj_size];exact hr.qL g o hx,fun x hx=>by
  obtain ⟨g1,v,hc,g3⟩:=hr.gl x hx;have eH:x.1≠l:=fun e=>by rw [e] at hc;exact IL hq hc
  exact ⟨g1,v,by rw [World.cell?_of_block (w:=w) (a:=⟨x.1,x.2.1,none⟩) (hh x.1 eH)];exact hc,g3⟩⟩,hk⟩
 obtain ⟨L,q1,q2,q3,q4⟩:=hr.cw b cw hb;exact ⟨L,q1,q2,q3,q4.mono hk (fun _ _ h=>h) (hh L.g (xX b cw L hb q1))⟩
theorem Jm (hr:cS X base σ β w) {bl:Nat} {ρ:ic} {s s':gJ} (hb : σ[bl]? = some (some (.loop (ρ.at s)))) {L:Loc} (hL : β bl=some L) :
  ∃ q:Loop,w.heap[L.g]? = some (.loop q)∧q.state=s.of.1∧q.pending=s.of.2∧q.params = ρ.params∧q.assign = ρ.assign∧q.body = ρ.body∧q.tmps.size = ρ.tm.length∧(∀ k,k < ρ.tm.length→cf w (MT X σ β) β (q.tmps.getD k undef) (ρ.tm.getD k .undef)) ∧
   cS X base (cr σ bl (.loop (ρ.at s'))) β (w.putObj L.g (.loop { q with state:=s'.of.1,pending:=s'.of.2 })) ∧
   Ext 0 σ β w (cr σ bl (.loop (ρ.at s'))) β (w.putObj L.g (.loop { q with state:=s'.of.1,pending:=s'.of.2 })):=by
 obtain ⟨L',h1,h2,h3,tmps,dr,fn,h4,h5,h6⟩:=hr.cw bl _ hb;obtain rfl:=aP (hL.symm.trans h1);refine ⟨_,h4,rfl,rfl,rfl,rfl,rfl,h5,h6,?_⟩;have bA:L.g<w.heap.size:=(aO.1 h4).1;have ot:∀ off,jr σ β L.g off:=fun off=>⟨bl,_,L,hb,hL,rfl,trivial⟩;obtain ⟨k1,k2,k3,k4⟩:=Fh hr bl L (.loop (ρ.at s')) (σ':=cr σ bl (.loop (ρ.at s'))) (β':=β) (w':=w.putObj L.g (.loop { state:=s'.of.1,pending:=s'.of.2,fn,tmps,params:=ρ.params,assign:=ρ.assign,body:=ρ.body,defers:=dr })) (E1 _ _ _)
  (fun c x hc hx=>⟨A1 _ _ _ hc hx,fun Lc DQ e=>hc (hr.inj c bl x _ Lc L (A1 _ _ _ hc hx) hb DQ hL e)⟩) (Cc _ _ _) hL (fun _ _=>rfl) (.inr hL)
  rfl rfl rfl (pY World.putObj_size.symm) (fun g _ hg=>World.putObj_heap_other hg) (fun off v hc _=>absurd hc (IL h4))
  (fun _ hn=>absurd (ot 0) (hn 0)) (fun off _=>.inl (ot off)) h3 h2
 refine ⟨k4 ⟨tmps,dr,fn,?_,h5,fun k hk=>(h6 k hk).mono k2 (fun _ _ h=>h)⟩,k1⟩;simp [World.putObj,bA,ic.at]
theorem Ls:∀ (tm:List ah) (ts:List Tmp) (cD:List ah),(qs tm ts cD).length=tm.length
 | tm,[],_=>by simp [qs]
 | tm,_ :: _,[]=>by simp [qs]
 | tm,t :: ts,a :: cD=>by simp [qs,Ls (tm.set t a) ts cD]
theorem QN {M:Nat→Nat→Prop}:∀ (ts:List Tmp) (cD:List ah) (vs:List Value) (tm:List ah) (tmps:Array Value),vs.length=cD.length→tmps.size=tm.length→(∀ k,k<cD.length→cf w M β (vs.getD k undef) (cD.getD k .undef)) →
  (∀ k,k<tm.length→cf w M β (tmps.getD k undef) (tm.getD k .undef)) →
  ((ts.zip vs).foldl (fun (tmps:Array Value) (p:Tmp×Value)=>tmps.setIfInBounds p.1 p.2) tmps).size=tm.length ∧
   ∀ k,k<tm.length→cf w M β (((ts.zip vs).foldl (fun (tmps:Array Value) (p:Tmp×Value)=>tmps.setIfInBounds p.1 p.2) tmps).getD k undef) ((qs tm ts cD).getD k .undef)
 | [],cD,vs,tm,tmps,_,hn,_,h=>by
  have:qs tm [] cD=tm:=by cases cD<;>rfl
  rw [this];exact ⟨hn,h⟩
 | t :: ts,[],[],tm,tmps,_,hn,_,h=>⟨hn,h⟩
 | _ :: _,[],_ :: _,_,_,h,_,_,_=>by simp at h
 | _ :: _,_ :: _,[],_,_,h,_,_,_=>by simp at h
 | t :: ts,a :: cD,v :: vs,tm,tmps,hl,hn,hv,h=>by
  have:=QN ts cD vs (tm.set t a) (tmps.setIfInBounds t v) (by simpa using hl) (by simp [hn]) (fun k hk=>by simpa using hv (k+1) (by simp;omega)) (fun k hk=>by
   rw [bj] at hk;rw [ak,bJ];by_cases e:t=k
   ·subst e;rw [if_pos rfl,if_pos (by omega),Gc _ _ _ hk];simpa using hv 0 (by simp)
   ·rw [if_neg e,← ak,getD_set_ne _ _ _ _ e];exact h k hk)
  rw [bj] at this;exact this
end
def jO (K:ah→ai→Prop) (n:Nat) (ρ:ic) (bl:Nat) (t:Bool) (s':gJ) (σ:ai):Prop :=
 bP σ bl=some (.loop (ρ.at .busy))∧∃ lW,iP lW (cr σ bl (.loop (ρ.at s')))∧n≤lW.length∧bD lW.length lW∧K (.bool t) lW
def p7 (K:ah→ai→Prop) (n:Nat) (ρ:ic) (bl:Nat) (e:ct) (s:St):Prop :=
 match e with
 | .normal=>jO K n ρ bl true .ready s.σ
 | .ret=>jO K n ρ bl false (.done .ret) s.σ
 | .exit id=>jO K n ρ bl false (.done (.exit id)) s.σ
 | .goto l=>jO K n ρ bl false (.done (.goto l)) s.σ
 | .panic _=>False
def yS (P:Program) (K:ah→ai→Prop) (n:Nat) (ρ:ic) (bl:Nat) (e:ct) (s:St):Prop :=
 match e with
 | .normal=>bP s.σ bl=some (.loop (ρ.at .ready))∧iy P ⟨n,some bl⟩ ρ.body ⟨s.tm,cr s.σ bl (.loop (ρ.at .busy))⟩ (p7 K n ρ bl)
 | _=>False
section
variable {P:Program} {σ:ai}
theorem aq.yield {bl:Nat} {ρ:ic} {args:List ah} {K:ah→ai→Prop} (hs:bP σ bl=some (.loop (ρ.at .ready))) (hn : ρ.params.size=args.length)
  (h:iy P ⟨σ.length,some bl⟩ ρ.assign ⟨qs ρ.tm ρ.params.toList args,σ⟩ (yS P K σ.length ρ bl)):aq P (.lN bl) args σ K:=by
 intro X base β w vf vs h1 oq h2 h3 fr cs h4;cases oq with
 | @lN _ L hL =>
 have Ao:=kq hs;have xc:bl < σ.length:=(aJ.1 Ao).1;obtain ⟨q,q1,q2,q3,q4,q5,q6,q7,q8,_⟩:=Jm (s':=.busy) h1 Ao hL;obtain ⟨p1,p2⟩:=QN (M:=MT X σ β) ρ.params.toList args vs.toList ρ.tm q.tmps (by simpa using h2) q7 (fun k hk=>by rw [Zq0];exact h3 k hk) q8;have zb:(q.params.zip vs).foldl (fun tmps (t,a)=>tmps.setIfInBounds t a) q.tmps=(ρ.params.toList.zip vs.toList).foldl (fun (tmps:Array Value) (p:Tmp×Value)=>tmps.setIfInBounds p.1 p.2) q.tmps:=by
  rw [q4,← Array.foldl_toList,Array.toList_zip]
 let b:Frame:={ (default:Frame) with fn:=q.fn,kind:=.normal,roundOf:=some L.g }
 let a0:Act:={ tmps:=(q.params.zip vs).foldl (fun tmps (t,a)=>tmps.setIfInBounds t a) q.tmps,defers:=[] }
 have hrel:Rel X base w.heap.size [] ⟨qs ρ.tm ρ.params.toList args,σ⟩ β a0 w:=by
  refine ⟨h1,?_,fun k hk=>?_,⟨[],rfl,iF,fun r hr=>by simp at hr⟩⟩
  ·simp only [a0,zb,p1,Ls]
  ·simp only [a0,zb];simp only [Ls] at hk;exact p2 k hk
 obtain ⟨e,kK,fy,a1,w1,r1,r2,r3,r4,r5⟩:=h X base w.heap.size [] β a0 w b [.beginRound, .code ρ.body] (fr :: cs) (ae _) (ae _) hrel ⟨xc,L,hL,rfl⟩;cases e with
 | exit id=>exact r1.elim
 | goto l=>exact r1.elim
 | ret=>exact r1.elim
 | panic u=>exact r1.elim
 | normal =>
 obtain ⟨s1,s2⟩:=r1;have Hi : fy bl=some L:=(r4.env bl xc).trans hL;obtain ⟨q',t1,t2,t3,t4,t5,t6,t7,t8,t9,t10⟩:=Jm (s':=.busy) r3.s (kq s1) Hi;have DV:(Instr.beginRound L.g).run P w1 = .ok () (w1.putObj L.g (.loop { q' with state:=(gJ.busy).of.1,pending:=(gJ.busy).of.2 })):=by
  rw [run_beginRound t1 t2];have:q'.pending=none:=t3;simp only [gJ.of,← this]
 have tI:Rel X base w.heap.size [] ⟨kK.tm,cr kK.σ bl (.loop (ρ.at .busy))⟩ fy a1 (w1.putObj L.g (.loop { q' with state:=(gJ.busy).of.1,pending:=(gJ.busy).of.2 })) :=
  r3.next t9 t10 (fun _ _ h=>h) (v:=undef) (r:=.undef) (.undef _) none
 generalize tf:w1.putObj L.g (.loop { q' with state:=(gJ.busy).of.1,pending:=(gJ.busy).of.2 })=w2 at *
 obtain ⟨e2,B1,nx,a2,w3,u1,u2,u3,u4,u5⟩:=s2 X base w.heap.size [] fy a1 w2 b [] (fr :: cs) (c_ r2 (Cc _ _ _)) (by rw [← tf,World.putObj_size];exact r4.size) tI ⟨xc,L,Hi,rfl⟩;have Hj : nx bl=some L:=(u4.env bl xc).trans Hi;have Hh:Ext σ.length σ β w B1.σ nx w3:=(r4.trans (Ext.mk t10.os t10.tape t10.output t10.size t10.cell t10.block t10.jb (fun _ _=>rfl))).trans u4;have fin:∀ (t:Bool) (s':gJ) (jump:Option Code),s'.of=((if jump.isNone then .ready else .done),jump)→t=jump.isNone→jO K σ.length ρ bl t s' B1.σ →
   (∀ v w4,(Instr.endRound L.g jump).run P w3 = .ok v w4→Steps P (lone (b.atR a0 [.code ρ.assign, .beginRound, .code ρ.body]) (fr :: cs) w) (lone (fr.finish v) cs w4)) →
   ∃ r σ' β' v w',K r σ'∧cS X base σ' β' w'∧cf w' (MT X σ' β') β' v r∧Ext σ.length σ β w σ' β' w'∧σ.length≤σ'.length∧Fin P fr cs (do let d ← Deferred.ofValue (.func (.yield L.g) #[] #[]) vs;invoke d.target d.args) w v w':=by
  intro t s' jump hof ht hend Er;obtain ⟨v1,lW,v2,v3,v4,v5⟩:=hend;obtain ⟨Qg,x1,x2,x3,x4,x5,x6,x7,x8,x9,C5⟩:=Jm (s':=s') u3.s (kq v1) Hj;have ft:=run_endRound (P:=P) jump x1;have hq:({ Qg with state:=s'.of.1,pending:=s'.of.2 }:Loop) = { Qg with state:=if jump.isNone then .ready else .done,pending:=jump }:=by rw [hof]
  rw [hq] at x9 C5;have gx:=Er _ _ ft;generalize AG:w3.putObj L.g (.loop { Qg with state:=if jump.isNone then .ready else .done,pending:=jump })=w4 at *
  have hE3:Ext σ.length σ β w (cr B1.σ bl (.loop (ρ.at s'))) nx w4:=Hh.trans (Ext.mk C5.os C5.tape C5.output C5.size C5.cell C5.block C5.jb (fun _ _=>rfl));refine ⟨.bool t,lW,_, .bool jump.isNone,w4,v5,x9.drop (vV v2) rfl (qR v4),by rw [ht];exact .bool _,hE3.drop (vV v2) rfl v3,v3,?_⟩;refine ⟨_,_,_,?_,gx⟩;have Ex:(do let d ← Deferred.ofValue (.func (.yield L.g) #[] #[]) vs;invoke d.target d.args:Sem Next).run P w = .ok (.round L.g q.fn a0.tmps ρ.assign ρ.body) w:=by
   have:=run_yield (P:=P) (args:=#[]++vs++#[]) q1 (by simp [q4,hn,h2]);simp only [q5,q6] at this;simp only [Array.empty_append,Array.append_empty] at this;have e0:(do let d ← Deferred.ofValue (.func (.yield L.g) #[] #[]) vs;invoke d.target d.args:Sem Next)=Instr.yield L.g (#[]++vs++#[]):=rfl
   rw [e0];simp only [Array.empty_append,Array.append_empty];exact this
  have X4:∀ d b s a k,fr.todo≠.call d b s a :: k:=h4;simp only [stepG.apply,if_true,Sem.runT_eq,Ex,GStep.bare_after];have hk:(match fr.todo with | .call _ true _ _ :: _=>CallKind.wrapped | _=>.normal) = .normal:=by
   split
   ·rename_i e;exact absurd e (h4 _ _ _ _ _)
   ·rfl
  simp only [hk,GStep.bare];rfl
 have rA:Steps P (lone (b.atR a0 [.code ρ.assign, .beginRound, .code ρ.body]) (fr :: cs) w) (lone (b.atR a1 [.code ρ.body]) (fr :: cs) w2):=Steps.trans r5 (.one (stepR_beginRound rfl DV));cases e2 with
 | normal=>exact fin true .ready none rfl rfl u1 fun v w4 hr=>rA.trans (Steps.trans u5 (.one (stepR_round_end rfl rfl hr)))
 | ret =>
  obtain ⟨k',e7⟩:=u5;exact fin false (.done .ret) (some .ret) rfl rfl u1 fun v w4 hr=>rA.trans (Steps.trans e7 (.one (stepR_round_ret rfl rfl hr)))
 | exit id =>
  obtain ⟨k',hx,e7⟩:=u5;exact fin false (.done (.exit id)) (some (.exit id)) rfl rfl u1 fun v w4 hr=>rA.trans (Steps.trans e7 (.one (stepR_round_exit rfl rfl hx hr)))
 | panic u=>exact u1.elim
 | goto l =>
  obtain ⟨k',hx,e7⟩:=u5;exact fin false (.done (.goto l)) (some (.goto l)) rfl rfl u1 fun v w4 hr=>rA.trans (Steps.trans e7 (.one (stepR_round_goto rfl rfl hx hr)))
end
end Go.dm
