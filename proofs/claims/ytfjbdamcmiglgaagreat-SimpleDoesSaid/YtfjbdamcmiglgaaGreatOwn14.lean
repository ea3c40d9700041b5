/- Part 14 of what the claim rests on. -/
import Derived.Test.YtfjbdamcmiglgaaGreatOwn13
set_option linter.all false
abbrev oD:=@Bool.and_assoc
abbrev dM:=@Bool.and_eq_false_iff
abbrev f_:=@Bool.and_false
abbrev dB:=@Bool.not_eq_true
abbrev sg:=@List.contains_iff_mem
abbrev gT:=@List.getElem?_set_self
abbrev a_:=@List.mem_append
abbrev cN:=@List.mem_map
abbrev aK:=@List.mem_singleton
namespace Go.dq
open Go
section
variable {P:Program}{X:Nat->Nat->Prop}{base:Nat}{σ:av}{β:Env}{w:World}{nm:Nat}
theorem Ybu {α:Type}(n:Nat)(hn : 0<n)(w:World)(k:Nat->Sem α):∃c d,c<n/\(Sem.choose (.mapNext n) k).run P w=(k c).run P { w with drawn:=d }:=by
 by_cases hf:n<=1
 ·refine⟨0,w.drawn,hn,?_⟩;simp[Sem.run,Question.forced,hf]
 ·refine⟨w.tape w.drawn (.mapNext n) % n,w.drawn+1,Nat.mod_lt _ hn,?_⟩;simp[Sem.run,Question.forced,hf,Question.cut]
def qF (es:Array MapEntry)(seen:List Nat):Array MapEntry:=es.filter λe=>!(seen.map λi=>(es.getD i default).born).toArray.contains e.born
theorem LX {es:Array MapEntry}{i:Nat}(h:i<es.size):es.getD i default=es[i]:=by rw[au,aE h];rfl
theorem Lm {es:Array MapEntry} {clk:Nat} {seen:List Nat} (hb:jI es clk) (hs:∀i∈seen,i<es.size) (e:MapEntry):e∈qF es seen↔∃i,i<es.size/\i ∉ seen/\e=es.getD i default:=by
 simp only[qF,Array.mem_filter,bX,List.contains_toArray];constructor
 ·rintro⟨h1,h2⟩;obtain⟨i,hi,rfl⟩:=Array.mem_iff_getElem.1 h1;refine⟨i,hi,λhm=>?_,(LX hi).symm⟩;have:(seen.map λi=>(es.getD i default).born).contains es[i].born=true:=by
   rw[sg];exact cN.2 ⟨i,hm,by rw[LX hi]⟩
  rw[this]at h2;cases h2
 ·rintro⟨i,hi,hm,rfl⟩;refine⟨by rw[LX hi];exact Array.getElem_mem hi,?_⟩;rw[<-dB,sg];intro hc;obtain⟨j,hj,he⟩:=cN.1 hc;exact hm ((hb.2 j i (hs j hj) hi he) ▸ hj)
theorem Yms {es:Array MapEntry}{clk:Nat}{seen:List Nat}(hb:jI es clk)(hs:∀i∈seen,i<es.size):(qF es seen).filter (λe=>decide (e.born<clk))=qF es seen:=by
 rw[Array.filter_eq_self];intro e he;obtain⟨i,hi,_,rfl⟩:=(Lm hb hs e).1 he;simpa using hb.1 i hi
theorem Yo7 {es:Array MapEntry}{clk:Nat}{seen:List Nat}(hb:jI es clk)(hs:∀i∈seen,i<es.size):(qF es seen).filter (λe=>decide (e.born ≥ clk)) = #[]:=by
 rw[Array.filter_eq_empty_iff];intro e he;obtain⟨i,hi,_,rfl⟩:=(Lm hb hs e).1 he;have:=hb.1 i hi;simp only[ge_iff_le,decide_eq_true_eq];omega
theorem Yw3 {es:Array MapEntry}{clk:Nat}(hb:jI es clk):(!es.isEmpty&&es.all λe=>decide (e.born ≥ clk))=false:=by
 by_cases h:es.isEmpty=true
 ·simp[h]
 ·rw[dM];right;rw[<-dB,Array.all_eq_true];intro h2;have h0 : 0<es.size:=Nat.pos_of_ne_zero λe=>h (by simp[Array.isEmpty,e]);have:=h2 0 h0;have h3:=hb.1 0 h0;rw[LX h0]at h3;simp only[ge_iff_le,decide_eq_true_eq]at this;omega
theorem Yo2 {g m clk:Nat} {es:Array MapEntry} {seen:List Nat} {t:TypeId} (h1:w.heap[g]? = some (.mapIter (some m) clk (seen.map λi=>(es.getD i default).born).toArray clk)) (h2:w.heap[m]? = some (.map es clk)) (hb:jI es clk) (hs:∀i∈seen,i<es.size) :
  ((∀i,i<es.size->i∈seen)/\∃d,(Instr.next (.pointer (some ⟨g,0,none⟩)) false t).run P w=.ok (.tuple #[.bool false]) { w with drawn:=d }) \/
  ∃i,i<es.size/\i ∉ seen/\∃d,(Instr.next (.pointer (some ⟨g,0,none⟩)) false t).run P w=.ok (.tuple #[.bool true,(es.getD i default).key,(es.getD i default).val]) { w with heap:=w.heap.setIfInBounds g (.mapIter (some m) clk ((seen++[i]).map λi=>(es.getD i default).born).toArray clk),drawn:=d }:=by
 have g1:(getObj g).run P w=.ok (.mapIter (some m) clk (seen.map λi=>(es.getD i default).born).toArray clk) w:=by simp[getObj,Sem.run,h1]
 have g2:(getObj m).run P w=.ok (.map es clk) w:=by simp[getObj,Sem.run,h2]
 have g3:∀(s:Bool),(!s && !es.isEmpty&&es.all λe=>decide (e.born ≥ clk))=false:=λs=>by
  rw[oD,Yw3 hb,f_]
 by_cases hl:qF es seen = #[]
 ·refine .inl ⟨λi hi=>?_,?_⟩
  ·refine Classical.byContradiction λhn=>?_;have:=(Lm hb hs (es.getD i default)).2 ⟨i,hi,hn,rfl⟩;rw[hl]at this;simp at this
  ·have Jt:=hl;unfold qF at Jt;simp only[Instr.next,Sem.run_bind,g1,Result.andThen_ok,g2,g3,aX,if_false,Jt];refine⟨w.drawn,?_⟩;simp[choose,Sem.run,Question.forced]
 ·right;have e1:=Yms hb hs;have e2:=Yo7 hb hs;obtain⟨lf,Rv⟩:∃lf,qF es seen=lf:=⟨_,rfl⟩;rw[Rv]at hl e1 e2;have JA:=Rv;unfold qF at JA;have oS : 0<lf.size:=Nat.pos_of_ne_zero λe=>hl (Array.size_eq_zero_iff.1 e);have Rb:lf.isEmpty=false:=by rw[<-dB];intro h;exact hl (Array.isEmpty_iff.1 h)
  obtain⟨c,d,hc,hch⟩:=Ybu (P:=P) lf.size oS w .pure;have Q0:(choose (.mapNext lf.size)).run P w=.ok c { w with drawn:=d }:=by rw[choose,hch];rfl
  obtain⟨i,hi,hn,he⟩:=(Lm hb hs lf[c]).1 (by rw[Rv];exact Array.getElem_mem hc);refine⟨i,hi,hn,d,?_⟩;simp only[Instr.next,Sem.run_bind,g1,Result.andThen_ok,g2,g3,aX,if_false,JA,e1,e2,Rb,Array.append_empty,Array.empty_append,Array.size_map,Q0,fg,aE hc,bD];rw[he];have g4:∀ob,(setObj g ob).run P { w with drawn:=d }=.ok () { w with drawn:=d,heap:=w.heap.setIfInBounds g ob }:=λob=>by simp[setObj,Sem.run,h1]
  simp only[g4,Result.andThen_ok,Sem.run_pure];simp
theorem Ys0 {b:Nat}{cG:bS}(h:bW σ b=some cG):cJ σ b cG = σ:=by
 have bx:=(aN.1 (la h)).1;have fS:cJ σ b cG = σ.set b (some cG):=by simp[cJ,bx]
 rw[fS];refine bZ λj=>?_;by_cases e:j=b
 ·subst e;rw[gT bx,la h]
 ·rw[b_ (λh=>e h.symm)]
theorem Yhb (hr:c8 X base σ β w) {ρ:Operand->Value} {o:Oper} {x:Operand} (ho:o.op=.next x false) {b:Nat} {ks vs:List ah} {seen:List Nat} (hx:cn w (MT X σ β) β (ρ x) (.it b)) (hb:bW σ b=some (.mC ks vs seen)) :
  ((∀i,i<ks.length->i∈seen)/\dh P X base σ β w nm (execOp ρ o) (.dw [.bool false]) σ) \/
  ∃i,i<ks.length/\i ∉ seen/\dh P X base σ β w nm (execOp ρ o) (.dw [.bool true,ks.getD i .undef,vs.getD i .undef]) (cJ σ b (.mC ks vs (seen++[i]))):=by
 obtain⟨L',hL,hv⟩:∃L,β b=some L/\ρ x=.pointer (some ⟨L.g,0,none⟩):=by
  generalize ρ x=v at hx;cases hx with|it h=>exact⟨_,h,rfl⟩
 obtain⟨L,h1,_,_,m,es,clk,h2,h3,h4,h5,h6,h7,h8,h9,wL⟩:=hr.cG b _ (la hb);obtain rfl:=aS (h1.symm.trans hL);have nP:L.g<w.heap.size:=(aQ.1 h2).1;rcases Yo2 (P:=P) (t:=o.type) h2 h3 h9 (λi hi=>by have:=wL i hi;omega) with⟨q1,d,q2⟩|⟨i,q1,q2,d,q3⟩
 ·refine .inl ⟨λi hi=>q1 i (by omega),?_⟩;have:=ES (nm:=nm) (P:=P) (mf:=.mC ks vs seen) (r:=.dw [.bool false]) (s:=execOp ρ o) hr (la hb) h1 (w':={ w with drawn:=d }) rfl rfl rfl rfl (λ_ _=>rfl) (λ_ _ hc _=>hc) (λ_=>rfl) (λ_ h=>h) (v:=.tuple #[.bool false])
   (.inl (by simp only[execOp,ho,Sem.run_bind,hv,q2,Result.andThen_ok,Sem.run_pure]))
   (λM' hk=>⟨m,es,clk,h2,(hk.map _ _ _ h3 h4).1,(hk.map _ _ _ h3 h4).2,h5,h6,λk eZ=>(h7 k eZ).mono hk λ_ _ h=>h,λk eZ=>(h8 k eZ).mono hk λ_ _ h=>h,h9,wL⟩)
   (λM' _=>.dw rfl λk hk=>match k,hk with|0,_=>.bool false)
  rwa [Ys0 hb]at this
 ·refine .inr ⟨i,by omega,q2,?_⟩;refine ES (mf:=.mC ks vs (seen++[i])) hr (la hb) h1 (w':={ w with heap:=w.heap.setIfInBounds L.g (.mapIter (some m) clk ((seen++[i]).map λi=>(es.getD i default).born).toArray clk),drawn:=d }) rfl rfl rfl (by simp)
   (λg hg=>by simp[bK,gV hg]) (λ_ _ _ hn=>absurd trivial hn) (λhn=>absurd trivial (hn 0)) (λ_ _=>trivial) (v:=.tuple #[.bool true,(es.getD i default).key,(es.getD i default).val]) (.inl ?_) (λM' hk=>?_) (λM' hk=>?_)
  ·simp only[execOp,ho,Sem.run_bind,hv,q3,Result.andThen_ok,Sem.run_pure]
  ·refine ⟨m,es,clk,?_,(hk.map _ _ _ h3 h4).1,(hk.map _ _ _ h3 h4).2,h5,h6,λk eZ=>(h7 k eZ).mono hk λ_ _ h=>h,λk eZ=>(h8 k eZ).mono hk λ_ _ h=>h,h9,λj hj=>?_⟩
   ·show({ w with heap:=w.heap.setIfInBounds L.g _,drawn:=d }:World).heap[L.g]? = _;simp[bK,nP]
   ·rcases a_.1 hj with hj|hj
    ·exact wL j hj
    ·rw[aK.1 hj];omega
  ·refine .dw rfl λk eZ=>?_
   match k,eZ with
   |0,_=>exact .bool true
   |1,_=>exact(h7 i (by omega)).mono hk λ_ _ h=>h
   |2,_=>exact(h8 i (by omega)).mono hk λ_ _ h=>h
variable {lo:Ctx}{st:St}
theorem mR.J9 {ops:Array Oper} {rs:List Nat} {i:Nat} {rest:List Nat} {o:Oper} {Q:cB->St->Prop} (ho:ops[i]? = some o) (hg:nc ops st.tm o=some true) {x:Operand} (hop:o.op=.next x false) {b:Nat} {ks vs:List ah} {seen:List Nat}
  (hx:ev st.tm x=.it b) (hb:bW st.σ b=some (.mC ks vs seen))
  (h1:∀j,j<ks.length->j ∉ seen->mR P lo ops rs rest ⟨put st.tm o.dst (.dw [.bool true,ks.getD j .undef,vs.getD j .undef]),cJ st.σ b (.mC ks vs (seen++[j]))⟩ Q)
  (h2:(∀j,j<ks.length->j∈seen)->mR P lo ops rs rest ⟨put st.tm o.dst (.dw [.bool false]),st.σ⟩ Q):mR P lo ops rs (i :: rest) st Q:=by
 intro X base mb D β a w bb k cs g1 g2 g3;have hw:=Cp g3 hg;have Ce:=xw g3 x;rw[hx]at Ce;obtain⟨r,σ',hlen,hE,h⟩:∃r σ',st.σ.length<=σ'.length/\dh P X base st.σ β w st.σ.length (execOp a.eval o) r σ'/\mR P lo ops rs rest ⟨put st.tm o.dst r,σ'⟩ Q:=by
  rcases Yhb (P:=P) (nm:=st.σ.length) g3.s hop Ce hb with⟨q1,q2⟩|⟨j,q1,q2,q3⟩
  ·exact⟨_,_,ae _,q2,h2 q1⟩
  ·exact⟨_,_,yX,q3,h1 j q1 q2⟩
 obtain⟨v,w1,fI,fE,t1,t2,t3,t4,t5⟩:=hE;have hrel:=g3.next t1 t3 t5 t2 o.dst;obtain⟨e,eG,β',a',w',q,r1,r2,r3,rd,r4⟩:=h X base mb D fI _ w1 bb k cs (dg g1 hlen) (dg g2 t3.size) hrel;have rB:Ext lo.n st.σ β w σ' fI w1:=⟨t3.os,t3.tape,t3.output,t3.size,t3.cell,t3.block,t3.jq,λc hc=>t4 c (by omega)⟩;refine⟨e,eG,β',a',w',q,r1,r2,rB.trans r3,by rw[rd];cases o.dst<;>rfl,.of_steps (.one (step_lone_go ?_)) r4⟩;rw[bq,stepGR_op ho hw,Oper.semAt_eq _ _ _ (λc e=>by rw[hop]at e;cases e)];have gW:=Frame.finish_atR bb a ops i (rest++rs) k v;rw[ho]at gW;rcases fE with fE|⟨fE,rfl⟩
 ·simp only[stepG.apply,if_true,Sem.runT_eq,fE,GStep.bare_after,GStep.bare_go];rw[gW];rfl
 ·simp only[stepG.apply,if_true,Sem.runT_eq,fE,GStep.bare_after,GStep.bare_go];rw[gW];rfl
end
end Go.dq
