/- Part 14 of my own framework and of the walks of functions: AbsOm. -/
import Derived.Test.YtfjbdamcmiglgaaGreatOwn13
abbrev nz:=@Bool.and_assoc
abbrev db:=@Bool.and_eq_false_iff
abbrev iD:=@Bool.and_false
abbrev dw:=@Bool.not_eq_true
abbrev qO:=@List.contains_iff_mem
abbrev gA:=@List.getElem?_set_self
abbrev aY:=@List.mem_append
abbrev cB:=@List.mem_map
abbrev aL:=@List.mem_singleton
set_option linter.unusedVariables false
set_option linter.unusedSectionVars false
set_option linter.unusedSimpArgs false
namespace Go.dm
open Go
section
variable {P:Program} {X:Nat→Nat→Prop} {base:Nat} {σ:ai} {β:Env} {w:World} {nm:Nat}
theorem Yb4 {α:Type} (n:Nat) (hn : 0<n) (w:World) (k:Nat→Sem α):∃ c d,c<n∧(Sem.choose (.mapNext n) k).run P w=(k c).run P { w with drawn:=d }:=by
 by_cases hf:n≤1
 ·refine ⟨0,w.drawn,hn,?_⟩;simp [Sem.run,Question.forced,hf]
 ·refine ⟨w.tape w.drawn (.mapNext n) % n,w.drawn+1,Nat.mod_lt _ hn,?_⟩;simp [Sem.run,Question.forced,hf,Question.cut]
def pL (es:Array MapEntry) (seen:List Nat):Array MapEntry:=es.filter fun e=>!(seen.map fun i=>(es.getD i default).born).toArray.contains e.born
theorem JT {es:Array MapEntry} {i:Nat} (h:i<es.size):es.getD i default=es[i]:=by rw [ak,aE h];rfl
theorem JC {es:Array MapEntry} {clk:Nat} {seen:List Nat} (hb:jm es clk) (hs:∀ i∈seen,i<es.size) (e:MapEntry):e∈pL es seen↔∃ i,i<es.size∧i ∉ seen∧e=es.getD i default:=by
 simp only [pL,Array.mem_filter,bw,List.contains_toArray];constructor
 ·rintro ⟨h1,h2⟩;obtain ⟨i,hi,rfl⟩:=Array.mem_iff_getElem.1 h1;refine ⟨i,hi,fun hm=>?_,(JT hi).symm⟩;have:(seen.map fun i=>(es.getD i default).born).contains es[i].born=true:=by
   rw [qO];exact cB.2 ⟨i,hm,by rw [JT hi]⟩
  rw [this] at h2;cases h2
 ·rintro ⟨i,hi,hm,rfl⟩;refine ⟨by rw [JT hi];exact Array.getElem_mem hi,?_⟩;rw [← dw,qO];intro hc;obtain ⟨j,hj,he⟩:=cB.1 hc;exact hm ((hb.2 j i (hs j hj) hi he) ▸ hj)
theorem Yoo {es:Array MapEntry} {clk:Nat} {seen:List Nat} (hb:jm es clk) (hs:∀ i∈seen,i<es.size):(pL es seen).filter (fun e=>decide (e.born<clk))=pL es seen:=by
 rw [Array.filter_eq_self];intro e he;obtain ⟨i,hi,_,rfl⟩:=(JC hb hs e).1 he;simpa using hb.1 i hi
theorem Ynw {es:Array MapEntry} {clk:Nat} {seen:List Nat} (hb:jm es clk) (hs:∀ i∈seen,i<es.size):(pL es seen).filter (fun e=>decide (e.born ≥ clk)) = #[]:=by
 rw [Array.filter_eq_empty_iff];intro e he;obtain ⟨i,hi,_,rfl⟩:=(JC hb hs e).1 he;have:=hb.1 i hi;simp only [ge_iff_le,decide_eq_true_eq];omega
theorem Ywu {es:Array MapEntry} {clk:Nat} (hb:jm es clk):(!es.isEmpty&&es.all fun e=>decide (e.born ≥ clk))=false:=by
 by_cases h:es.isEmpty=true
 ·simp [h]
 ·rw [db];right;rw [← dw,Array.all_eq_true];intro h2;have h0 : 0<es.size:=Nat.pos_of_ne_zero fun e=>h (by simp [Array.isEmpty,e]);have:=h2 0 h0;have h3:=hb.1 0 h0;rw [JT h0] at h3;simp only [ge_iff_le,decide_eq_true_eq] at this;omega
theorem Ylo {g m clk:Nat} {es:Array MapEntry} {seen:List Nat} {t:TypeId} (h1:w.heap[g]? = some (.mapIter (some m) clk (seen.map fun i=>(es.getD i default).born).toArray clk)) (h2:w.heap[m]? = some (.map es clk)) (hb:jm es clk) (hs:∀ i∈seen,i<es.size) :
  ((∀ i,i<es.size→i∈seen)∧∃ d,(Instr.next (.pointer (some ⟨g,0,none⟩)) false t).run P w = .ok (.tuple #[.bool false]) { w with drawn:=d }) ∨
  ∃ i,i<es.size∧i ∉ seen∧∃ d,(Instr.next (.pointer (some ⟨g,0,none⟩)) false t).run P w = .ok (.tuple #[.bool true,(es.getD i default).key,(es.getD i default).val]) { w with heap:=w.heap.setIfInBounds g (.mapIter (some m) clk ((seen++[i]).map fun i=>(es.getD i default).born).toArray clk),drawn:=d }:=by
 have g1:(getObj g).run P w = .ok (.mapIter (some m) clk (seen.map fun i=>(es.getD i default).born).toArray clk) w:=by simp [getObj,Sem.run,h1]
 have g2:(getObj m).run P w = .ok (.map es clk) w:=by simp [getObj,Sem.run,h2]
 have g3:∀ (s:Bool),(!s && !es.isEmpty&&es.all fun e=>decide (e.born ≥ clk))=false:=fun s=>by
  rw [nz,Ywu hb,iD]
 by_cases hl:pL es seen = #[]
 ·refine .inl ⟨fun i hi=>?_,?_⟩
  ·refine Classical.byContradiction fun hn=>?_;have:=(JC hb hs (es.getD i default)).2 ⟨i,hi,hn,rfl⟩;rw [hl] at this;simp at this
  ·have HM:=hl;unfold pL at HM;simp only [Instr.next,Sem.run_bind,g1,Result.andThen_ok,g2,g3,bd,if_false,HM];refine ⟨w.drawn,?_⟩;simp [choose,Sem.run,Question.forced]
 ·right;have e1:=Yoo hb hs;have e2:=Ynw hb hs;obtain ⟨lf,Pa⟩:∃ lf,pL es seen=lf:=⟨_,rfl⟩;rw [Pa] at hl e1 e2;have HS:=Pa;unfold pL at HS;have ou : 0<lf.size:=Nat.pos_of_ne_zero fun e=>hl (Array.size_eq_zero_iff.1 e);have OM:lf.isEmpty=false:=by rw [← dw];intro h;exact hl (Array.isEmpty_iff.1 h)
  obtain ⟨c,d,hc,hch⟩:=Yb4 (P:=P) lf.size ou w .pure;have OE:(choose (.mapNext lf.size)).run P w = .ok c { w with drawn:=d }:=by rw [choose,hch];rfl
  obtain ⟨i,hi,hn,he⟩:=(JC hb hs lf[c]).1 (by rw [Pa];exact Array.getElem_mem hc);refine ⟨i,hi,hn,d,?_⟩;simp only [Instr.next,Sem.run_bind,g1,Result.andThen_ok,g2,g3,bd,if_false,HS,e1,e2,OM,Array.append_empty,Array.empty_append,Array.size_map,OE,eZ,aE hc,bM];rw [he];have g4:∀ ob,(setObj g ob).run P { w with drawn:=d } = .ok () { w with drawn:=d,heap:=w.heap.setIfInBounds g ob }:=fun ob=>by simp [setObj,Sem.run,h1]
  simp only [g4,Result.andThen_ok,Sem.run_pure];simp
theorem Yur {b:Nat} {cw:bO} (h:bP σ b=some cw):cr σ b cw = σ:=by
 have bA:=(aJ.1 (kq h)).1;have gS:cr σ b cw = σ.set b (some cw):=by simp [cr,bA]
 rw [gS];refine b_ fun j=>?_;by_cases e:j=b
 ·subst e;rw [gA bA,kq h]
 ·rw [bX (fun h=>e h.symm)]
theorem Ygt (hr:cS X base σ β w) {ρ:Operand→Value} {o:Oper} {x:Operand} (ho:o.op = .next x false) {b:Nat} {ks vs:List ah} {seen:List Nat} (hx:cf w (MT X σ β) β (ρ x) (.it b)) (hb:bP σ b=some (.lL ks vs seen)) :
  ((∀ i,i<ks.length→i∈seen)∧c8 P X base σ β w nm (execOp ρ o) (.dT [.bool false]) σ) ∨
  ∃ i,i<ks.length∧i ∉ seen∧c8 P X base σ β w nm (execOp ρ o) (.dT [.bool true,ks.getD i .undef,vs.getD i .undef]) (cr σ b (.lL ks vs (seen++[i]))):=by
 obtain ⟨L',hL,hv⟩:∃ L,β b=some L∧ρ x = .pointer (some ⟨L.g,0,none⟩):=by
  generalize ρ x=v at hx;cases hx with | it h=>exact ⟨_,h,rfl⟩
 obtain ⟨L,h1,_,_,m,es,clk,h2,h3,h4,h5,h6,h7,h8,h9,vg⟩:=hr.cw b _ (kq hb);obtain rfl:=aP (h1.symm.trans hL);have pg:L.g<w.heap.size:=(aO.1 h2).1;rcases Ylo (P:=P) (t:=o.type) h2 h3 h9 (fun i hi=>by have:=vg i hi;omega) with ⟨q1,d,q2⟩ | ⟨i,q1,q2,d,q3⟩
 ·refine .inl ⟨fun i hi=>q1 i (by omega),?_⟩;have:=Dh (nm:=nm) (P:=P) (lu:=.lL ks vs seen) (r:=.dT [.bool false]) (s:=execOp ρ o) hr (kq hb) h1 (w':={ w with drawn:=d }) rfl rfl rfl rfl (fun _ _=>rfl) (fun _ _ hc _=>hc) (fun _=>rfl) (fun _ h=>h) (v:=.tuple #[.bool false])
   (.inl (by simp only [execOp,ho,Sem.run_bind,hv,q2,Result.andThen_ok,Sem.run_pure]))
   (fun M' hk=>⟨m,es,clk,h2,(hk.map _ _ _ h3 h4).1,(hk.map _ _ _ h3 h4).2,h5,h6,fun k e7=>(h7 k e7).mono hk fun _ _ h=>h,fun k e7=>(h8 k e7).mono hk fun _ _ h=>h,h9,vg⟩)
   (fun M' _=>.dT rfl fun k hk=>match k,hk with | 0,_=>.bool false)
  rwa [Yur hb] at this
 ·refine .inr ⟨i,by omega,q2,?_⟩;refine Dh (lu:=.lL ks vs (seen++[i])) hr (kq hb) h1 (w':={ w with heap:=w.heap.setIfInBounds L.g (.mapIter (some m) clk ((seen++[i]).map fun i=>(es.getD i default).born).toArray clk),drawn:=d }) rfl rfl rfl (by simp)
   (fun g hg=>by simp [bJ,gQ hg]) (fun _ _ _ hn=>absurd trivial hn) (fun hn=>absurd trivial (hn 0)) (fun _ _=>trivial) (v:=.tuple #[.bool true,(es.getD i default).key,(es.getD i default).val]) (.inl ?_) (fun M' hk=>?_) (fun M' hk=>?_)
  ·simp only [execOp,ho,Sem.run_bind,hv,q3,Result.andThen_ok,Sem.run_pure]
  ·refine ⟨m,es,clk,?_,(hk.map _ _ _ h3 h4).1,(hk.map _ _ _ h3 h4).2,h5,h6,fun k e7=>(h7 k e7).mono hk fun _ _ h=>h,fun k e7=>(h8 k e7).mono hk fun _ _ h=>h,h9,fun j hj=>?_⟩
   ·show ({ w with heap:=w.heap.setIfInBounds L.g _,drawn:=d }:World).heap[L.g]? = _;simp [bJ,pg]
   ·rcases aY.1 hj with hj | hj
    ·exact vg j hj
    ·rw [aL.1 hj];omega
  ·refine .dT rfl fun k e7=>?_
   match k,e7 with
   | 0,_=>exact .bool true
   | 1,_=>exact (h7 i (by omega)).mono hk fun _ _ h=>h
   | 2,_=>exact (h8 i (by omega)).mono hk fun _ _ h=>h
variable {lo:Ctx} {st:St}
theorem mB.Il {ops:Array Oper} {rs:List Nat} {i:Nat} {rest:List Nat} {o:Oper} {Q:ct→St→Prop} (ho:ops[i]? = some o) (hg:mN ops st.tm o=some true) {x:Operand} (hop:o.op = .next x false) {b:Nat} {ks vs:List ah} {seen:List Nat}
  (hx:ev st.tm x = .it b) (hb:bP st.σ b=some (.lL ks vs seen))
  (h1:∀ j,j<ks.length→j ∉ seen→mB P lo ops rs rest ⟨put st.tm o.dst (.dT [.bool true,ks.getD j .undef,vs.getD j .undef]),cr st.σ b (.lL ks vs (seen++[j]))⟩ Q)
  (h2:(∀ j,j<ks.length→j∈seen)→mB P lo ops rs rest ⟨put st.tm o.dst (.dT [.bool false]),st.σ⟩ Q):mB P lo ops rs (i :: rest) st Q:=by
 intro X base mb D β a w bb k cs g1 g2 g3;have hw:=A0 g3 hg;have zA:=wq g3 x;rw [hx] at zA;obtain ⟨r,σ',hlen,hE,h⟩:∃ r σ',st.σ.length≤σ'.length∧c8 P X base st.σ β w st.σ.length (execOp a.eval o) r σ'∧mB P lo ops rs rest ⟨put st.tm o.dst r,σ'⟩ Q:=by
  rcases Ygt (P:=P) (nm:=st.σ.length) g3.s hop zA hb with ⟨q1,q2⟩ | ⟨j,q1,q2,q3⟩
  ·exact ⟨_,_,ae _,q2,h2 q1⟩
  ·exact ⟨_,_,xG,q3,h1 j q1 q2⟩
 obtain ⟨v,w1,fy,ft,t1,t2,t3,t4,t5⟩:=hE;have hrel:=g3.next t1 t3 t5 t2 o.dst;obtain ⟨e,eL,β',a',w',q,r1,r2,r3,rd,r4⟩:=h X base mb D fy _ w1 bb k cs (c_ g1 hlen) (c_ g2 t3.size) hrel;have qi:Ext lo.n st.σ β w σ' fy w1:=⟨t3.os,t3.tape,t3.output,t3.size,t3.cell,t3.block,t3.jb,fun c hc=>t4 c (by omega)⟩;refine ⟨e,eL,β',a',w',q,r1,r2,qi.trans r3,by rw [rd];cases o.dst<;>rfl, .of_steps (.one (step_lone_go ?_)) r4⟩;rw [bp,stepGR_op ho hw,Oper.semAt_eq _ _ _ (fun c e=>by rw [hop] at e;cases e)];have gR:=Frame.finish_atR bb a ops i (rest++rs) k v;rw [ho] at gR;rcases ft with ft | ⟨ft,rfl⟩
 ·simp only [stepG.apply,if_true,Sem.runT_eq,ft,GStep.bare_after,GStep.bare_go];rw [gR];rfl
 ·simp only [stepG.apply,if_true,Sem.runT_eq,ft,GStep.bare_after,GStep.bare_go];rw [gR];rfl
end
end Go.dm
