/- Part 27 of what the claim rests on. -/
import Derived.Test.YtfjbdamcmiglgaaGreatOwn26
import Derived.RangeFuncIn
import Derived.RangeFuncRecord
set_option linter.all false
namespace Go.dq
open Go
def iR.at (ρ:iR)(s:il):iR:={ ρ with st:=s }
def rJ:List ah->List Tmp->List ah->List ah
 |tm,t :: ts,a :: cI=>rJ (tm.set t a) ts cI
 |tm,_,_=>tm
section
variable {P:Program}{X:Nat->Nat->Prop}{base:Nat}{σ σ':av}{β:Env}{w:World}
theorem KF {w:World}{g o:Nat}{q:Loop}{v:Value}(h:w.heap[g]? = some (.loop q)):w.cell? ⟨g,o,none⟩≠some v:=by
 intro h2;simp[World.cell?,h]at h2
theorem c8.less (hr:c8 X base σ β w)(h1:zY σ' σ)(h2 : σ'.length = σ.length):c8 X base σ' β w:=by
 have hk:dK w (MT X σ β) w (MT X σ' β):=dK.nr λg o h=>h.imp id λ⟨b,cG,L,m1,m2,m3,m4⟩=>⟨b,cG,L,h1 b cG m1,m2,m3,m4⟩;refine⟨λb hb=>hr.o_ b (by omega),λb cG hb=>?_,λb b' x y L L' e1 e2=>hr.inj b b' x y L L' (h1 b x e1) (h1 b' y e2),hr.size,hr.sc,hr.gl⟩;obtain⟨L,q1,q2,q3,q4⟩:=hr.cG b cG (h1 b cG hb);exact⟨L,q1,q2,q3,q4.mono hk (λ_ _ h=>h) rfl⟩
theorem c8.aside (hr:c8 X base σ β w) {l:Nat} {q q':Loop} (hq:w.heap[l]? = some (.loop q)) (zk:∀b cG L,σ[b]? = some (some cG)->β b=some L->L.g≠l) (hX:∀o,¬X l o) :
  c8 X base σ β (w.putObj l (.loop q'))/\dK w (MT X σ β) (w.putObj l (.loop q')) (MT X σ β):=by
 have hl:l<w.heap.size:=(aQ.1 hq).1;have hh:∀g,g≠l->(w.putObj l (.loop q')).heap[g]? = w.heap[g]?:=λg hg=>World.putObj_heap_other hg;have hk:dK w (MT X σ β) (w.putObj l (.loop q')) (MT X σ β):=by
  refine⟨λg o v hc hn=>⟨?_,hn⟩,λg es c hg hn=>⟨?_,hn⟩⟩
  ·have dL:g≠l:=λe=>by rw[e]at hc;exact KF hq hc
   rw[World.cell?_of_block (w:=w) (a:=⟨g,o,none⟩) (hh g dL)];exact hc
  ·have dL:g≠l:=λe=>by rw[e,hq]at hg;cases hg
   rw[hh g dL];exact hg
 refine⟨⟨hr.o_,λb cG hb=>?_,hr.inj,by rw[World.putObj_size];exact hr.size,λg o hx=>by rw[World.putObj_size];exact hr.sc g o hx,λx hx=>by
  obtain⟨g1,v,hc,g3⟩:=hr.gl x hx;have dL:x.1≠l:=λe=>by rw[e]at hc;exact KF hq hc
  exact⟨g1,v,by rw[World.cell?_of_block (w:=w) (a:=⟨x.1,x.2.1,none⟩) (hh x.1 dL)];exact hc,g3⟩⟩,hk⟩
 obtain⟨L,q1,q2,q3,q4⟩:=hr.cG b cG hb;exact⟨L,q1,q2,q3,q4.mono hk (λ_ _ h=>h) (hh L.g (zk b cG L hb q1))⟩
theorem Zip (hr:c8 X base σ β w) {bl:Nat} {ρ:iR} {s s':il} (hb : σ[bl]? = some (some (.loop (ρ.at s)))) {L:Loc} (hL : β bl=some L) :
  ∃q:Loop,w.heap[L.g]? = some (.loop q)/\q.state=s.of.1/\q.pending=s.of.2/\q.params = ρ.params/\q.assign = ρ.assign/\q.body = ρ.body/\q.tmps.size = ρ.tm.length/\(∀k,k < ρ.tm.length->cn w (MT X σ β) β (q.tmps.getD k undef) (ρ.tm.getD k .undef)) /\
   c8 X base (cJ σ bl (.loop (ρ.at s'))) β (w.putObj L.g (.loop { q with state:=s'.of.1,pending:=s'.of.2 })) /\
   Ext 0 σ β w (cJ σ bl (.loop (ρ.at s'))) β (w.putObj L.g (.loop { q with state:=s'.of.1,pending:=s'.of.2 })):=by
 obtain⟨L',h1,h2,h3,tmps,dr,fn,h4,h5,h6⟩:=hr.cG bl _ hb;obtain rfl:=aS (hL.symm.trans h1);refine⟨_,h4,rfl,rfl,rfl,rfl,rfl,h5,h6,?_⟩;have bx:L.g<w.heap.size:=(aQ.1 h4).1;have pn:∀off,jR σ β L.g off:=λoff=>⟨bl,_,L,hb,hL,rfl,trivial⟩;obtain⟨k1,k2,k3,k4⟩:=GR hr bl L (.loop (ρ.at s')) (σ':=cJ σ bl (.loop (ρ.at s'))) (β':=β) (w':=w.putObj L.g (.loop { state:=s'.of.1,pending:=s'.of.2,fn,tmps,params:=ρ.params,assign:=ρ.assign,body:=ρ.body,defers:=dr })) (GI _ _ _)
  (λc x hc hx=>⟨Cq _ _ _ hc hx,λLc Fl e=>hc (hr.inj c bl x _ Lc L (Cq _ _ _ hc hx) hb Fl hL e)⟩) (DI _ _ _) hL (λ_ _=>rfl) (.inr hL)
  rfl rfl rfl (qW World.putObj_size.symm) (λg _ hg=>World.putObj_heap_other hg) (λoff v hc _=>absurd hc (KF h4))
  (λ_ hn=>absurd (pn 0) (hn 0)) (λoff _=>.inl (pn off)) h3 h2
 refine⟨k4 ⟨tmps,dr,fn,?_,h5,λk hk=>(h6 k hk).mono k2 (λ_ _ h=>h)⟩,k1⟩;simp[World.putObj,bx,iR.at]
theorem NJ:∀(tm:List ah) (ts:List Tmp) (cI:List ah),(rJ tm ts cI).length=tm.length
 |tm,[],_=>by simp[rJ]
 |tm,_ :: _,[]=>by simp[rJ]
 |tm,t :: ts,a :: cI=>by simp[rJ,NJ (tm.set t a) ts cI]
theorem Zn {M:Nat->Nat->Prop}:∀(ts:List Tmp) (cI:List ah) (vs:List Value) (tm:List ah) (tmps:Array Value),vs.length=cI.length->tmps.size=tm.length->(∀k,k<cI.length->cn w M β (vs.getD k undef) (cI.getD k .undef)) ->
  (∀k,k<tm.length->cn w M β (tmps.getD k undef) (tm.getD k .undef)) ->
  ((ts.zip vs).foldl (λ(tmps:Array Value) (p:Tmp×Value)=>tmps.setIfInBounds p.1 p.2) tmps).size=tm.length /\
   ∀k,k<tm.length->cn w M β (((ts.zip vs).foldl (λ(tmps:Array Value) (p:Tmp×Value)=>tmps.setIfInBounds p.1 p.2) tmps).getD k undef) ((rJ tm ts cI).getD k .undef)
 |[],cI,vs,tm,tmps,_,hn,_,h=>by
  have:rJ tm [] cI=tm:=by cases cI<;>rfl
  rw[this];exact⟨hn,h⟩
 |t :: ts,[],[],tm,tmps,_,hn,_,h=>⟨hn,h⟩
 |_ :: _,[],_ :: _,_,_,h,_,_,_=>by simp at h
 |_ :: _,_ :: _,[],_,_,h,_,_,_=>by simp at h
 | t :: ts,a :: cI,v :: vs,tm,tmps,hl,hn,hv,h=>by
  have:=Zn ts cI vs (tm.set t a) (tmps.setIfInBounds t v) (by simpa using hl) (by simp[hn]) (λk hk=>by simpa using hv (k+1) (by simp;omega)) (λk hk=>by
   rw[bg]at hk;rw[au,bK];by_cases e:t=k
   ·subst e;rw[if_pos rfl,if_pos (by omega),HN _ _ _ hk];simpa using hv 0 (by simp)
   ·rw[if_neg e,<-au,getD_set_ne _ _ _ _ e];exact h k hk)
  rw[bg]at this;exact this
end
def kg (K:ah->av->Prop)(n:Nat)(ρ:iR)(bl:Nat)(t:Bool)(s':il)(σ:av):Prop :=
 bW σ bl=some (.loop (ρ.at .busy))/\∃mP,ic mP (cJ σ bl (.loop (ρ.at s')))/\n<=mP.length/\bH mP.length mP/\K (.bool t) mP
def rf (K:ah->av->Prop)(n:Nat)(ρ:iR)(bl:Nat)(e:cB)(s:St):Prop :=
 match e with
 |.normal=>kg K n ρ bl true .ready s.σ
 |.ret=>kg K n ρ bl false (.done .ret) s.σ
 |.exit id=>kg K n ρ bl false (.done (.exit id)) s.σ
 |.goto l=>kg K n ρ bl false (.done (.goto l)) s.σ
 |.panic _=>False
def Ah (P:Program)(K:ah->av->Prop)(n:Nat)(ρ:iR)(bl:Nat)(e:cB)(s:St):Prop :=
 match e with
 |.normal=>bW s.σ bl=some (.loop (ρ.at .ready))/\jn P ⟨n,some bl⟩ ρ.body ⟨s.tm,cJ s.σ bl (.loop (ρ.at .busy))⟩ (rf K n ρ bl)
 |_=>False
section
variable {P:Program}{σ:av}
theorem ak.yield {bl:Nat} {ρ:iR} {args:List ah} {K:ah->av->Prop} (hs:bW σ bl=some (.loop (ρ.at .ready))) (hn : ρ.params.size=args.length)
  (h:jn P ⟨σ.length,some bl⟩ ρ.assign ⟨rJ ρ.tm ρ.params.toList args,σ⟩ (Ah P K σ.length ρ bl)):ak P (.ni bl) args σ K:=by
 intro X base β w vf vs h1 ou h2 h3 fr cs h4;cases ou with
 | @ni _ L hL =>
 have zR:=la hs;have qS:bl < σ.length:=(aN.1 zR).1;obtain⟨q,q1,q2,q3,q4,q5,q6,q7,q8,_⟩:=Zip (s':=.busy) h1 zR hL;obtain⟨p1,p2⟩:=Zn (M:=MT X σ β) ρ.params.toList args vs.toList ρ.tm q.tmps (by simpa using h2) q7 (λk hk=>by rw[Zql];exact h3 k hk) q8;have AO:(q.params.zip vs).foldl (λtmps (t,a)=>tmps.setIfInBounds t a) q.tmps=(ρ.params.toList.zip vs.toList).foldl (λ(tmps:Array Value) (p:Tmp×Value)=>tmps.setIfInBounds p.1 p.2) q.tmps:=by
  rw[q4,<-Array.foldl_toList,Array.toList_zip]
 let b:Frame:={ (default:Frame) with fn:=q.fn,kind:=.normal,roundOf:=some L.g }
 let a0:Act:={ tmps:=(q.params.zip vs).foldl (λtmps (t,a)=>tmps.setIfInBounds t a) q.tmps,defers:=[] }
 have hrel:Rel X base w.heap.size [] ⟨rJ ρ.tm ρ.params.toList args,σ⟩ β a0 w:=by
  refine⟨h1,?_,λk hk=>?_,⟨[],rfl,mc,λr hr=>by simp at hr⟩⟩
  ·simp only[a0,AO,p1,NJ]
  ·simp only[a0,AO];simp only[NJ]at hk;exact p2 k hk
 obtain⟨e,lp,fI,a1,w1,r1,r2,r3,r4,r5⟩:=h X base w.heap.size [] β a0 w b [.beginRound,.code ρ.body] (fr :: cs) (ae _) (ae _) hrel ⟨qS,L,hL,rfl⟩;cases e with
 |exit id=>exact r1.elim
 |goto l=>exact r1.elim
 |ret=>exact r1.elim
 |panic u=>exact r1.elim
 |normal =>
 obtain⟨s1,s2⟩:=r1;have QJ : fI bl=some L:=(r4.env bl qS).trans hL;obtain⟨q',t1,t2,t3,t4,t5,t6,t7,t8,t9,t10⟩:=Zip (s':=.busy) r3.s (la s1) QJ;have Ft:(Instr.beginRound L.g).run P w1=.ok () (w1.putObj L.g (.loop { q' with state:=(il.busy).of.1,pending:=(il.busy).of.2 })):=by
  rw[run_beginRound t1 t2];have:q'.pending=none:=t3;simp only[il.of,<-this]
 have uY:Rel X base w.heap.size [] ⟨lp.tm,cJ lp.σ bl (.loop (ρ.at .busy))⟩ fI a1 (w1.putObj L.g (.loop { q' with state:=(il.busy).of.1,pending:=(il.busy).of.2 })) :=
  r3.next t9 t10 (λ_ _ h=>h) (v:=undef) (r:=.undef) (.undef _) none
 generalize lE:w1.putObj L.g (.loop { q' with state:=(il.busy).of.1,pending:=(il.busy).of.2 })=w2 at *
 obtain ⟨e2,nh,nZ,a2,w3,u1,u2,u3,u4,u5⟩:=s2 X base w.heap.size [] fI a1 w2 b [] (fr :: cs) (dg r2 (DI _ _ _)) (by rw[<-lE,World.putObj_size];exact r4.size) uY ⟨qS,L,QJ,rfl⟩;have I0 : nZ bl=some L:=(u4.env bl qS).trans QJ;have IZ:Ext σ.length σ β w nh.σ nZ w3:=(r4.trans (Ext.mk t10.os t10.tape t10.output t10.size t10.cell t10.block t10.jq (λ_ _=>rfl))).trans u4;have fin:∀(t:Bool) (s':il) (jump:Option Code),s'.of=((if jump.isNone then .ready else .done),jump)->t=jump.isNone->kg K σ.length ρ bl t s' nh.σ ->
   (∀v w4,(Instr.endRound L.g jump).run P w3=.ok v w4->Steps P (lone (b.atR a0 [.code ρ.assign,.beginRound,.code ρ.body]) (fr :: cs) w) (lone (fr.finish v) cs w4)) ->
   ∃r σ' β' v w',K r σ'/\c8 X base σ' β' w'/\cn w' (MT X σ' β') β' v r/\Ext σ.length σ β w σ' β' w'/\σ.length<=σ'.length/\Fin P fr cs (do let d <-Deferred.ofValue (.func (.yield L.g) #[] #[]) vs;invoke d.target d.args) w v w':=by
  intro t s' jump JL ht hend FW;obtain⟨v1,mP,v2,v3,v4,v5⟩:=hend;obtain⟨Sz,x1,x2,x3,x4,x5,x6,x7,x8,x9,EC⟩:=Zip (s':=s') u3.s (la v1) I0;have fE:=run_endRound (P:=P) jump x1;have hq:({ Sz with state:=s'.of.1,pending:=s'.of.2 }:Loop) = { Sz with state:=if jump.isNone then .ready else .done,pending:=jump }:=by rw[JL]
  rw[hq]at x9 EC;have gE:=FW _ _ fE;generalize hw4:w3.putObj L.g (.loop { Sz with state:=if jump.isNone then .ready else .done,pending:=jump })=w4 at *
  have hE3:Ext σ.length σ β w (cJ nh.σ bl (.loop (ρ.at s'))) nZ w4:=IZ.trans (Ext.mk EC.os EC.tape EC.output EC.size EC.cell EC.block EC.jq (λ_ _=>rfl));refine⟨.bool t,mP,_,.bool jump.isNone,w4,v5,x9.drop (xe v2) rfl (sq v4),by rw[ht];exact .bool _,hE3.drop (xe v2) rfl v3,v3,?_⟩;refine⟨_,_,_,?_,gE⟩;have F2:(do let d <-Deferred.ofValue (.func (.yield L.g) #[] #[]) vs;invoke d.target d.args:Sem Next).run P w=.ok (.round L.g q.fn a0.tmps ρ.assign ρ.body) w:=by
   have:=run_yield (P:=P) (args:=#[]++vs++#[]) q1 (by simp[q4,hn,h2]);simp only[q5,q6]at this;simp only[Array.empty_append,Array.append_empty]at this;have e0:(do let d <-Deferred.ofValue (.func (.yield L.g) #[] #[]) vs;invoke d.target d.args:Sem Next)=Instr.yield L.g (#[]++vs++#[]):=rfl
   rw[e0];simp only[Array.empty_append,Array.append_empty];exact this
  have aao:∀d b s a k,fr.todo≠.call d b s a :: k:=h4;simp only[stepG.apply,if_true,Sem.runT_eq,F2,GStep.bare_after];have hk:(match fr.todo with|.call _ true _ _ :: _=>CallKind.wrapped|_=>.normal)=.normal:=by
   split
   ·rename_i e;exact absurd e (h4 _ _ _ _ _)
   ·rfl
  simp only[hk,GStep.bare];rfl
 have sS:Steps P (lone (b.atR a0 [.code ρ.assign,.beginRound,.code ρ.body]) (fr :: cs) w) (lone (b.atR a1 [.code ρ.body]) (fr :: cs) w2):=Steps.trans r5 (.one (stepR_beginRound rfl Ft));cases e2 with
 |normal=>exact fin true .ready none rfl rfl u1 λv w4 hr=>sS.trans (Steps.trans u5 (.one (stepR_round_end rfl rfl hr)))
 |ret =>
  obtain⟨k',eZ⟩:=u5;exact fin false (.done .ret) (some .ret) rfl rfl u1 λv w4 hr=>sS.trans (Steps.trans eZ (.one (stepR_round_ret rfl rfl hr)))
 |exit id =>
  obtain⟨k',hx,eZ⟩:=u5;exact fin false (.done (.exit id)) (some (.exit id)) rfl rfl u1 λv w4 hr=>sS.trans (Steps.trans eZ (.one (stepR_round_exit rfl rfl hx hr)))
 |panic u=>exact u1.elim
 |goto l =>
  obtain⟨k',hx,eZ⟩:=u5;exact fin false (.done (.goto l)) (some (.goto l)) rfl rfl u1 λv w4 hr=>sS.trans (Steps.trans eZ (.one (stepR_round_goto rfl rfl hx hr)))
end
end Go.dq
