/- Part 28 of what the claim rests on. -/
import Derived.Test.YtfjbdamcmiglgaaGreatOwn27
set_option linter.all false
namespace Go.dq
open Go
def qK (Q:cB->St->Prop)(tm:List ah)(σ:av):il->Prop
 |.ready=>Q .normal ⟨tm,σ⟩
 |.done .ret=>Q .ret ⟨tm,σ⟩
 |.done (.exit id)=>Q (.exit id) ⟨tm,σ⟩
 |.done (.goto l)=>Q (.goto l) ⟨tm,σ⟩
 |_=>False
def yc (Q:cB->St->Prop)(tm:List ah)(ρ:iR)(n:Nat)(_:ah)(σ:av):Prop :=
 ∃s,bW σ n=some (.loop (ρ.at s))/\qK Q tm (σ.set n none) s
section
variable {P:Program}{lo:Ctx}{st:St}{Q:cB->St->Prop}
theorem Zhl {w:World} {l:Nat} {r:Loop} (h:w.heap[l]? = some (.loop r)) (fn:FuncId) (tmps:Array Value) (ps:Array Tmp) (assign body:Code) :
  (Instr.enterLoop fn tmps ps assign body (some l)).run P w=.ok (w.heap.size,[]) (w.alloc (.loop { state:=.ready,pending:=none,fn,tmps,params:=ps,assign,body,defers:=r.defers })):=by
 unfold Instr.enterLoop;simp only[Sem.run_bind,run_getLoop h,run_newObj_alloc,Result.andThen,Sem.run_pure]
theorem DW (σ:av)(x:bS):cJ σ σ.length x = σ++[some x]:=by simp[cJ]
theorem Yfa {X:Nat->Nat->Prop} {base:Nat} {σ:av} {β:Env} {w:World} (hr:c8 X base σ β w) (o:Obj):c8 X base σ β (w.alloc o)/\Ext 0 σ β w σ β (w.alloc o):=by
 have hh:∀g,g<w.heap.size->(w.alloc o).heap[g]? = w.heap[g]?:=λg hg=>by
  show(w.heap.push o)[g]? = _;rw[gK,if_neg (by omega)]
 have hs:w.heap.size<=(w.alloc o).heap.size:=by rw[World.size_alloc];omega
 obtain⟨k1,k2⟩:=hr.kept hs hh;exact⟨k1,rfl,rfl,rfl,hs,λg o' v hc _=>by rw[World.cell?_of_block (w:=w) (a:=⟨g,o',none⟩) (hh g (Ae hc))];exact hc,λg hg _=>hh g hg,λg o' h=>.inl h,λ_ _=>rfl⟩
theorem YS {X:Nat->Nat->Prop} {base:Nat} {σ:av} {β:Env} {w:World} (hr:c8 X base σ β w) (ρ:iR) {tmps:Array Value} (fn:FuncId) (dr:Nat) (hn:tmps.size = ρ.tm.length) (ht:∀k,k < ρ.tm.length->cn w (MT X σ β) β (tmps.getD k undef) (ρ.tm.getD k .undef)) :
  c8 X base (σ++[some (.loop (ρ.at .ready))]) (qM β σ.length ⟨w.heap.size,0,0,0⟩) (w.alloc (.loop { state:=.ready,pending:=none,fn,tmps,params:=ρ.params,assign:=ρ.assign,body:=ρ.body,defers:=dr })) /\
   Ext 0 σ β w (σ++[some (.loop (ρ.at .ready))]) (qM β σ.length ⟨w.heap.size,0,0,0⟩) (w.alloc (.loop { state:=.ready,pending:=none,fn,tmps,params:=ρ.params,assign:=ρ.assign,body:=ρ.body,defers:=dr })) /\
   ∀b L,β b=some L->qM β σ.length ⟨w.heap.size,0,0,0⟩ b=some L:=by
 obtain⟨k1,k2,k3,k4⟩:=Ug hr (hr.o_ σ.length (ae _)) (w':=w.alloc (.loop { state:=.ready,pending:=none,fn,tmps,params:=ρ.params,assign:=ρ.assign,body:=ρ.body,defers:=dr })) (.loop (ρ.at .ready)) 0 0 (obj:=.loop { state:=.ready,pending:=none,fn,tmps,params:=ρ.params,assign:=ρ.assign,body:=ρ.body,defers:=dr }) rfl rfl rfl rfl;rw[DW]at k1 k2 k4;exact⟨k4 ⟨tmps,dr,fn,World.alloc_heap_new _ _,hn,λk hk=>(ht k hk).mono k2 k3⟩,k1,k3⟩
theorem Ybt {X:Nat->Nat->Prop} {base mb:Nat} {D:List Deferred} {β:Env} {a:Act} {w:World} {b:Frame} (h3:Rel X base mb D st β a w) (oT:lo.ok β b) (B7:mb<=w.heap.size) (ρ:iR) (hL:nA ρ.tm st.tm) (fA:∀b0,lo.ro=some b0->∃r,bW st.σ b0=some (.loop r)) :
  ∃(l:Nat) (mark:List Deferred) (w1:World),(Instr.enterLoop b.fn a.tmps ρ.params ρ.assign ρ.body b.roundOf).run P w=.ok (l,mark) w1 /\
   c8 X base (st.σ++[some (.loop (ρ.at .ready))]) (qM β st.σ.length ⟨l,0,0,0⟩) w1/\Ext 0 st.σ β w (st.σ++[some (.loop (ρ.at .ready))]) (qM β st.σ.length ⟨l,0,0,0⟩) w1/\(∀b L,β b=some L->qM β st.σ.length ⟨l,0,0,0⟩ b=some L) /\
   w.heap.size<=l/\Marks mb D w1 (mark++a.defers):=by
 obtain⟨hLn,hLt⟩:=H2 hL;have tK:∀k,k < ρ.tm.length->cn w (MT X st.σ β) β (a.tmps.getD k undef) (ρ.tm.getD k .undef):=λj hj=>by
  rcases hLt j hj with e|e
  ·rw[e];exact .undef _
  ·rw[e];exact h3.t j (by omega)
 have eM:a.tmps.size = ρ.tm.length:=by rw[h3.n,hLn]
 unfold Ctx.ok at oT;cases hr:lo.ro with
 | none =>
  rw[hr]at oT;simp only at oT;rw[oT];obtain⟨q1,q2⟩:=Yfa h3.s (.deferred (some []));obtain⟨k1,k2,k3⟩:=YS q1 ρ (tmps:=a.tmps) b.fn w.heap.size eM (λk hk=>(tK k hk).mono (q2.keeps h3.s) (λ_ _ h=>h));refine⟨w.heap.size+1,_,_,run_enterLoop_outer _ _ _ _ _,?_,?_,?_,by omega,?_⟩
  ·rw[World.size_alloc]at k1;exact k1
  ·rw[World.size_alloc]at k2;exact q2.trans k2
  ·rw[World.size_alloc]at k3;exact k3
  ·have hd:=h3.d.ext h3.s (q2.trans k2);obtain⟨rs,m1,m2,m3⟩:=hd;obtain⟨rs0,n1,n2,n3⟩:=h3.d;have xm:rs=rs0:=by
    have:rs.map (λr=>({ target:=.collected r,args:=#[] }:Deferred))++D=rs0.map (λr=>({ target:=.collected r,args:=#[] }:Deferred))++D:=by rw[<-m1,<-n1]
    have:=List.append_cancel_right this;exact(List.map_inj_right (λx y h=>by simpa using h)).1 this
   refine⟨w.heap.size :: rs,by rw[m1];rfl,fM.2 ⟨λhm=>?_,m2⟩,λr sU=>?_⟩
   ·rw[xm]at hm;have:=(aQ.1 (n3 _ hm).2).1;omega
   ·rcases aU.1 sU with e|e
    ·subst e;refine⟨B7,?_⟩;show(((w.heap.push (.deferred (some []))).push _)[w.heap.size]? : Option Obj) = _;rw[gK,if_neg (by simp),gK,if_pos rfl]
    ·exact m3 r e
 |some b0 =>
  rw[hr]at oT;obtain⟨ur,L0,BZ,Hu⟩:=oT;obtain⟨r0,MF⟩:=fA b0 hr;rw[Hu];obtain⟨L',q1,q2,q3,aaH,dr',fn',q4,_⟩:=h3.s.cG b0 _ (la MF);obtain rfl:=aS (BZ.symm.trans q1);obtain⟨k1,k2,k3⟩:=YS h3.s ρ (tmps:=a.tmps) b.fn dr' eM tK;exact⟨w.heap.size,[],_,Zhl q4 _ _ _ _ _,k1,k2,k3,ae _,h3.d.ext h3.s k2⟩
theorem jn.rangeFunc {f:Operand} {ps:Array Tmp} {assign body:Code} (Ci:List ah) (hL:nA Ci st.tm) (fA:∀b0,lo.ro=some b0->∃r,bW st.σ b0=some (.loop r))
  (h:∀ρ:iR,ρ.tm=Ci->ρ.params=ps->ρ.assign=assign->ρ.body=body->ak P (ev st.tm f) [.ni st.σ.length] (st.σ++[some (.loop (ρ.at .ready))]) (yc Q st.tm ρ st.σ.length)) :
  jn P lo (.rangeFunc f ps assign body) st Q:=by
 intro X base mb D β a w b k cs h1 h2 h3 oT
 let ρ:iR:=⟨Ci,ps,assign,body,.ready⟩
 obtain⟨l,mark,w1,e1,e2,e3,e4,e5,e6⟩:=Ybt (P:=P) h3 oT h2 ρ hL fA;have hup:qM β st.σ.length ⟨l,0,0,0⟩ st.σ.length=some ⟨l,0,0,0⟩:=wv _ _ _;generalize xT:qM β st.σ.length ⟨l,0,0,0⟩ = fI at *
 have vI:=e3.keeps h3.s;obtain⟨r,jO,nZ,v,w2,⟨s,q1,q2⟩,g1,g2,g3,g4,f1,CV,w0,g5,g6⟩:=h ρ rfl rfl rfl rfl X base fI w1 (a.eval f) #[.func (.yield l) #[] #[]] e2 ((xw h3 f).mono vI e4) rfl (λj hj=>by
  have qh:j=0:=by simpa using hj
  subst qh;exact cn.ni (L:=⟨l,0,0,0⟩) hup) (b.atR { a with defers:=mark++a.defers } (.inRangeFunc l :: k)) cs (λd b' s a' k' e=>by simp[Frame.atR]at e)
 have aap:(st.σ++[some (bS.loop (ρ.at .ready))]).length=st.σ.length+1:=by simp
 have I0 : nZ st.σ.length=some ⟨l,0,0,0⟩:=(g3.env _ (by omega)).trans hup;have zR:=la q1;obtain⟨q,x1,x2,x3,x4,x5,x6,x7,x8,_⟩:=Zip (s':=.ready) g1 zR I0;have RB:q.state≠.busy:=by
  rw[x2];cases s with
  |busy=>exact q2.elim
  |ready=>simp[il.of]
  |done c=>simp[il.of]
 have hend:=run_endLoop (P:=P) x1 RB;have hle:zY (jO.set st.σ.length none) jO:=λc x hx=>by
  by_cases e:st.σ.length=c
  ·subst e;have bx:st.σ.length < jO.length:=by omega
   simp[bx]at hx
  ·rw[b_ e]at hx;exact hx
 have Jz:=g1.less hle (by simp);obtain⟨k1,k2⟩:=Jz.aside (l:=l) (q':={ q with state:=.exhausted }) x1 (λc cG L hc Fl e=>by
  have dL:c≠st.σ.length:=λe'=>by
   subst e';have bx:st.σ.length < jO.length:=by omega
   simp[bx]at hc
  exact dL (g1.inj c st.σ.length cG _ L _ (hle c cG hc) zR Fl I0 e)) (λo hx=>by have:=h3.s.sc l o hx;omega)
 generalize Be:w2.putObj l (.loop { q with state:=.exhausted })=w3 at *
 have pn:∀g o,jR (jO.set st.σ.length none) nZ g o->jR jO nZ g o:=λg o ⟨c,cG,L,m1,m2,m3,m4⟩=>⟨c,cG,L,hle c cG m1,m2,m3,m4⟩;have hh3:∀g,g≠l->w3.heap[g]? = w2.heap[g]?:=λg hg=>by rw[<-Be];exact World.putObj_heap_other hg
 have D9:Ext lo.n jO nZ w2 (jO.set st.σ.length none) nZ w3:=by
  refine⟨by rw[<-Be];rfl,by rw[<-Be];rfl,by rw[<-Be];rfl,by rw[<-Be,World.putObj_size];exact ae _,λg o v hc _=>?_,λg hg hn=>hh3 g λe=>hn 0 ⟨st.σ.length,_,_,zR,I0,e.symm,trivial⟩,λg o hm=>.inl (pn g o hm),λ_ _=>rfl⟩;have dL:g≠l:=λe=>by rw[e]at hc;exact KF x1 hc
  rw[World.cell?_of_block (w:=w2) (a:=⟨g,o,none⟩) (hh3 g dL)];exact hc
 have Jj:Ext lo.n st.σ β w (st.σ++[some (.loop (ρ.at .ready))]) fI w1:=⟨e3.os,e3.tape,e3.output,e3.size,e3.cell,e3.block,e3.jq,λc hc=>by rw[<-xT];exact EP _ _ _ (by omega)⟩;have hE:=(Jj.trans (g3.lower (by omega))).trans D9;have hkE:dK w (MT X st.σ β) w3 (MT X (jO.set st.σ.length none) nZ):=hE.keeps h3.s;have J2:∀c L,β c=some L->nZ c=some L:=λc L hc=>by
  have bx:c<st.σ.length:=kq λhle=>by rw[h3.s.o_ c hle]at hc;cases hc
  rw[g3.env c (by omega)];exact e4 c L hc
 have hrel:Rel X base mb D ⟨st.tm,jO.set st.σ.length none⟩ nZ { a with defers:=mark++a.defers } w3:=by
  refine⟨k1,h3.n,λj hj=>(h3.t j hj).mono hkE J2,?_⟩;have:=(e6.ext e2 g3);exact this.ext g1 D9
 have fN:Steps P (lone (b.atR a (.code (.rangeFunc f ps assign body):: k)) cs w) (lone (b.atR { a with defers:=mark++a.defers } ((q.pending.map Item.code).toList++k)) cs w3):=by
  refine .head (step_lone_go ?_) (g6.trans ?_)
  ·rw [<-g5];have hev:Frame.eval (b.atR { tmps:=a.tmps,defers:=mark++a.defers } (.inRangeFunc l :: k))=a.eval:=Frame.eval_atR b { a with defers:=mark++a.defers } (.inRangeFunc l :: k);have hs:(do let d <-resolve a.eval (rangeCall f l) 0;invoke d.target d.args:Sem Next)=(do let d <-Deferred.ofValue (a.eval f) #[.func (.yield l) #[] #[]];invoke d.target d.args):=by
    simp[resolve,rangeCall,Act.eval]
   rw[<-hs,<-hev];have Qs:(Instr.enterLoop b.fn a.tmps ps assign body b.roundOf).run P w=.ok (l,mark) w1:=e1;simp[stepG,stepG.exec,Frame.atR,Sem.runT_eq,Qs,GStep.bare_after]
  ·rw[finish_atR_inRangeFunc];exact .one (stepR_endRangeFunc hend)
 have Da:lo.n<=(jO.set st.σ.length none).length:=by rw[bg];omega
 have JO:q.pending=s.of.2:=x3;rw[JO]at fN;cases s with
 |busy=>exact q2.elim
 |ready=>exact⟨.normal,_,nZ,_,w3,q2,Da,hrel,hE,fN⟩
 |done c =>
  cases c with
  |ret=>exact⟨.ret,_,nZ,_,w3,q2,Da,hrel,hE,k,fN⟩
  |exit id=>exact⟨.exit id,_,nZ,_,w3,q2,Da,hrel,hE,k,rfl,fN⟩
  |goto l=>exact⟨.goto l,_,nZ,_,w3,q2,Da,hrel,hE,k,rfl,fN⟩
  |_=>exact q2.elim
end
end Go.dq
