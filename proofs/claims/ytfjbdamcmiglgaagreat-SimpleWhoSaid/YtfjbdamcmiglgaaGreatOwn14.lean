/- Part 14 of my own framework and of the walks of functions: AbsOm. -/
import Derived.Test.YtfjbdamcmiglgaaGreatOwn13
abbrev eW:=@Bool.and_eq_false_iff
abbrev gW:=@Bool.and_false
abbrev da:=@Bool.not_eq_true
abbrev pZ:=@List.contains_iff_mem
abbrev fK:=@List.getElem?_set_self
abbrev aW:=@List.mem_append
abbrev cn:=@List.mem_map
abbrev aN:=@List.mem_singleton
set_option linter.unusedVariables false
set_option linter.unusedSectionVars false
set_option linter.unusedSimpArgs false
namespace Go.c8
open Go
section
variable {P:Program} {X:Nat→Nat→Prop} {base:Nat} {σ:ai} {β:Env} {w:World} {nm:Nat}
theorem Zye {α:Type} (n:Nat) (hn : 0<n) (w:World) (k:Nat→Sem α):∃ c d,c<n∧(Sem.choose (.mapNext n) k).run P w=(k c).run P { w with drawn:=d }:=by
 by_cases hf:n≤1
 ·refine ⟨0,w.drawn,hn,?_⟩
  simp [Sem.run,Question.forced,hf]
 ·refine ⟨w.tape w.drawn (.mapNext n) % n,w.drawn+1,Nat.mod_lt _ hn,?_⟩
  simp [Sem.run,Question.forced,hf,Question.cut]
def oU (es:Array MapEntry) (seen:List Nat):Array MapEntry:=es.filter fun e=>!(seen.map fun i=>(es.getD i default).born).toArray.contains e.born
theorem Iw {es:Array MapEntry} {i:Nat} (h:i<es.size):es.getD i default=es[i]:=by rw [aj,aB h];rfl
theorem H2 {es:Array MapEntry} {clk:Nat} {seen:List Nat} (hb:iI es clk) (hs:∀ i∈seen,i<es.size) (e:MapEntry):e∈oU es seen↔∃ i,i<es.size∧i ∉ seen∧e=es.getD i default:=by
 simp only [oU,Array.mem_filter,bT,List.contains_toArray]
 constructor
 ·rintro ⟨h1,h2⟩
  obtain ⟨i,hi,rfl⟩:=Array.mem_iff_getElem.1 h1
  refine ⟨i,hi,fun hm=>?_,(Iw hi).symm⟩
  have:(seen.map fun i=>(es.getD i default).born).contains es[i].born=true:=by
   rw [pZ]
   exact cn.2 ⟨i,hm,by rw [Iw hi]⟩
  rw [this] at h2;cases h2
 ·rintro ⟨i,hi,hm,rfl⟩
  refine ⟨by rw [Iw hi];exact Array.getElem_mem hi,?_⟩
  rw [← da,pZ]
  intro hc
  obtain ⟨j,hj,he⟩:=cn.1 hc
  exact hm ((hb.2 j i (hs j hj) hi he) ▸ hj)
theorem Zy {es:Array MapEntry} {clk:Nat} {seen:List Nat} (hb:iI es clk) (hs:∀ i∈seen,i<es.size):(oU es seen).filter (fun e=>decide (e.born<clk))=oU es seen:=by
 rw [Array.filter_eq_self]
 intro e he
 obtain ⟨i,hi,_,rfl⟩:=(H2 hb hs e).1 he
 simpa using hb.1 i hi
theorem Yly {es:Array MapEntry} {clk:Nat} {seen:List Nat} (hb:iI es clk) (hs:∀ i∈seen,i<es.size):(oU es seen).filter (fun e=>decide (e.born ≥ clk)) = #[]:=by
 rw [Array.filter_eq_empty_iff]
 intro e he
 obtain ⟨i,hi,_,rfl⟩:=(H2 hb hs e).1 he
 have:=hb.1 i hi
 simp only [ge_iff_le,decide_eq_true_eq];omega
theorem Yy0 {es:Array MapEntry} {clk:Nat} (hb:iI es clk):(!es.isEmpty&&es.all fun e=>decide (e.born ≥ clk))=false:=by
 by_cases h:es.isEmpty=true
 ·simp [h]
 ·rw [eW]
  right
  rw [← da,Array.all_eq_true]
  intro h2
  have h0 : 0<es.size:=Nat.pos_of_ne_zero fun e=>h (by simp [Array.isEmpty,e])
  have:=h2 0 h0
  have h3:=hb.1 0 h0
  rw [Iw h0] at h3
  simp only [ge_iff_le,decide_eq_true_eq] at this
  omega
theorem Yl7 {g m clk:Nat} {es:Array MapEntry} {seen:List Nat} {t:TypeId} (h1:w.heap[g]? = some (.mapIter (some m) clk (seen.map fun i=>(es.getD i default).born).toArray clk)) (h2:w.heap[m]? = some (.map es clk)) (hb:iI es clk) (hs:∀ i∈seen,i<es.size) :
  ((∀ i,i<es.size→i∈seen)∧∃ d,(Instr.next (.pointer (some ⟨g,0,none⟩)) false t).run P w = .ok (.tuple #[.bool false]) { w with drawn:=d }) ∨
  ∃ i,i<es.size∧i ∉ seen∧∃ d,(Instr.next (.pointer (some ⟨g,0,none⟩)) false t).run P w = .ok (.tuple #[.bool true,(es.getD i default).key,(es.getD i default).val]) { w with heap:=w.heap.setIfInBounds g (.mapIter (some m) clk ((seen++[i]).map fun i=>(es.getD i default).born).toArray clk),drawn:=d }:=by
 have g1:(getObj g).run P w = .ok (.mapIter (some m) clk (seen.map fun i=>(es.getD i default).born).toArray clk) w:=by simp [getObj,Sem.run,h1]
 have g2:(getObj m).run P w = .ok (.map es clk) w:=by simp [getObj,Sem.run,h2]
 have g3:∀ (s:Bool),(!s && !es.isEmpty&&es.all fun e=>decide (e.born ≥ clk))=false:=fun s=>by
  rw [Bool.and_assoc,Yy0 hb,gW]
 by_cases hl:oU es seen = #[]
 ·refine .inl ⟨fun i hi=>?_,?_⟩
  ·refine Classical.byContradiction fun hn=>?_
   have:=(H2 hb hs (es.getD i default)).2 ⟨i,hi,hn,rfl⟩
   rw [hl] at this;simp at this
  ·have Gj:=hl
   unfold oU at Gj
   simp only [Instr.next,Sem.run_bind,g1,Result.andThen_ok,g2,g3,a8,if_false,Gj]
   refine ⟨w.drawn,?_⟩
   simp [choose,Sem.run,Question.forced]
 ·right
  have e1:=Zy hb hs
  have e2:=Yly hb hs
  obtain ⟨lf,MR⟩:∃ lf,oU es seen=lf:=⟨_,rfl⟩
  rw [MR] at hl e1 e2
  have Gq:=MR
  unfold oU at Gq
  have nE : 0<lf.size:=Nat.pos_of_ne_zero fun e=>hl (Array.size_eq_zero_iff.1 e)
  have Mw:lf.isEmpty=false:=by rw [← da];intro h;exact hl (Array.isEmpty_iff.1 h)
  obtain ⟨c,d,hc,hch⟩:=Zye (P:=P) lf.size nE w .pure
  have Mq:(choose (.mapNext lf.size)).run P w = .ok c { w with drawn:=d }:=by rw [choose,hch];rfl
  obtain ⟨i,hi,hn,he⟩:=(H2 hb hs lf[c]).1 (by rw [MR];exact Array.getElem_mem hc)
  refine ⟨i,hi,hn,d,?_⟩
  simp only [Instr.next,Sem.run_bind,g1,Result.andThen_ok,g2,g3,a8,if_false,Gq,e1,e2,Mw,Array.append_empty,Array.empty_append,Array.size_map,Mq,ei,aB hc,bu]
  rw [he]
  have g4:∀ ob,(setObj g ob).run P { w with drawn:=d } = .ok () { w with drawn:=d,heap:=w.heap.setIfInBounds g ob }:=fun ob=>by simp [setObj,Sem.run,h1]
  simp only [g4,Result.andThen_ok,Sem.run_pure]
  simp
theorem Ypj {b:Nat} {cd:bE} (h:bG σ b=some cd):bZ σ b cd = σ:=by
 have bD:=(aI.1 (jU h)).1
 have hO:bZ σ b cd = σ.set b (some cd):=by simp [bZ,bD]
 rw [hO]
 refine bP fun j=>?_
 by_cases e:j=b
 ·subst e;rw [fK bD,jU h]
 ·rw [bL (fun h=>e h.symm)]
theorem Yt (hr:cC X base σ β w) {ρ:Operand→Value} {o:Oper} {x:Operand} (ho:o.op = .next x false) {b:Nat} {ks vs:List ae} {seen:List Nat} (hx:bR w (MT X σ β) β (ρ x) (.it b)) (hb:bG σ b=some (.kZ ks vs seen)) :
  ((∀ i,i<ks.length→i∈seen)∧cN P X base σ β w nm (execOp ρ o) (.dz [.bool false]) σ) ∨
  ∃ i,i<ks.length∧i ∉ seen∧cN P X base σ β w nm (execOp ρ o) (.dz [.bool true,ks.getD i .undef,vs.getD i .undef]) (bZ σ b (.kZ ks vs (seen++[i]))):=by
 obtain ⟨L',hL,hv⟩:∃ L,β b=some L∧ρ x = .pointer (some ⟨L.g,0,none⟩):=by
  generalize ρ x=v at hx
  cases hx with | it h=>exact ⟨_,h,rfl⟩
 obtain ⟨L,h1,_,_,m,es,clk,h2,h3,h4,h5,h6,h7,h8,h9,tO⟩:=hr.cd b _ (jU hb)
 obtain rfl:=aM (h1.symm.trans hL)
 have oQ:L.g<w.heap.size:=(aL.1 h2).1
 rcases Yl7 (P:=P) (t:=o.type) h2 h3 h9 (fun i hi=>by have:=tO i hi;omega) with ⟨q1,d,q2⟩ | ⟨i,q1,q2,d,q3⟩
 ·refine .inl ⟨fun i hi=>q1 i (by omega),?_⟩
  have:=Cc (nm:=nm) (P:=P) (kI:=.kZ ks vs seen) (r:=.dz [.bool false]) (s:=execOp ρ o) hr (jU hb) h1 (w':={ w with drawn:=d }) rfl rfl rfl rfl (fun _ _=>rfl) (fun _ _ hc _=>hc) (fun _=>rfl) (fun _ h=>h) (v:=.tuple #[.bool false])
   (.inl (by simp only [execOp,ho,Sem.run_bind,hv,q2,Result.andThen_ok,Sem.run_pure]))
   (fun M' hk=>⟨m,es,clk,h2,(hk.map _ _ _ h3 h4).1,(hk.map _ _ _ h3 h4).2,h5,h6,fun k er=>(h7 k er).mono hk fun _ _ h=>h,fun k er=>(h8 k er).mono hk fun _ _ h=>h,h9,tO⟩)
   (fun M' _=>.dz rfl fun k hk=>match k,hk with | 0,_=>.bool false)
  rwa [Ypj hb] at this
 ·refine .inr ⟨i,by omega,q2,?_⟩
  refine Cc (kI:=.kZ ks vs (seen++[i])) hr (jU hb) h1 (w':={ w with heap:=w.heap.setIfInBounds L.g (.mapIter (some m) clk ((seen++[i]).map fun i=>(es.getD i default).born).toArray clk),drawn:=d }) rfl rfl rfl (by simp)
   (fun g hg=>by simp [bC,fY hg]) (fun _ _ _ hn=>absurd trivial hn) (fun hn=>absurd trivial (hn 0)) (fun _ _=>trivial) (v:=.tuple #[.bool true,(es.getD i default).key,(es.getD i default).val]) (.inl ?_) (fun M' hk=>?_) (fun M' hk=>?_)
  ·simp only [execOp,ho,Sem.run_bind,hv,q3,Result.andThen_ok,Sem.run_pure]
  ·refine ⟨m,es,clk,?_,(hk.map _ _ _ h3 h4).1,(hk.map _ _ _ h3 h4).2,h5,h6,fun k er=>(h7 k er).mono hk fun _ _ h=>h,fun k er=>(h8 k er).mono hk fun _ _ h=>h,h9,fun j hj=>?_⟩
   ·show ({ w with heap:=w.heap.setIfInBounds L.g _,drawn:=d }:World).heap[L.g]? = _
    simp [bC,oQ]
   ·rcases aW.1 hj with hj | hj
    ·exact tO j hj
    ·rw [aN.1 hj];omega
  ·refine .dz rfl fun k er=>?_
   match k,er with
   | 0,_=>exact .bool true
   | 1,_=>exact (h7 i (by omega)).mono hk fun _ _ h=>h
   | 2,_=>exact (h8 i (by omega)).mono hk fun _ _ h=>h
variable {lo:Ctx} {st:St}
theorem lY.GY {ops:Array Oper} {rs:List Nat} {i:Nat} {rest:List Nat} {o:Oper} {Q:b9→St→Prop} (ho:ops[i]? = some o) (hg:mc ops st.tm o=some true) {x:Operand} (hop:o.op = .next x false) {b:Nat} {ks vs:List ae} {seen:List Nat}
  (hx:ev st.tm x = .it b) (hb:bG st.σ b=some (.kZ ks vs seen))
  (h1:∀ j,j<ks.length→j ∉ seen→lY P lo ops rs rest ⟨put st.tm o.dst (.dz [.bool true,ks.getD j .undef,vs.getD j .undef]),bZ st.σ b (.kZ ks vs (seen++[j]))⟩ Q)
  (h2:(∀ j,j<ks.length→j∈seen)→lY P lo ops rs rest ⟨put st.tm o.dst (.dz [.bool false]),st.σ⟩ Q):lY P lo ops rs (i :: rest) st Q:=by
 intro X base mb D β a w bb k cs g1 g2 g3
 have hw:=zB g3 hg
 have BI:=uP g3 x
 rw [hx] at BI
 obtain ⟨r,σ',hlen,hE,h⟩:∃ r σ',st.σ.length≤σ'.length∧cN P X base st.σ β w st.σ.length (execOp a.eval o) r σ'∧lY P lo ops rs rest ⟨put st.tm o.dst r,σ'⟩ Q:=by
  rcases Yt (P:=P) (nm:=st.σ.length) g3.s hop BI hb with ⟨q1,q2⟩ | ⟨j,q1,q2,q3⟩
  ·exact ⟨_,_,ah _,q2,h2 q1⟩
  ·exact ⟨_,_,wz,q3,h1 j q1 q2⟩
 obtain ⟨v,w1,eO,eL,t1,t2,t3,t4,t5⟩:=hE
 have hrel:=g3.next t1 t3 t5 t2 o.dst
 obtain ⟨e,dV,β',a',w',q,r1,r2,r3,rd,r4⟩:=h X base mb D eO _ w1 bb k cs (cP g1 hlen) (cP g2 t3.size) hrel
 have pC:Ext lo.n st.σ β w σ' eO w1:=⟨t3.os,t3.tape,t3.output,t3.size,t3.cell,t3.block,t3.iB,fun c hc=>t4 c (by omega)⟩
 refine ⟨e,dV,β',a',w',q,r1,r2,pC.trans r3,by rw [rd];cases o.dst<;>rfl, .of_steps (.one (step_lone_go ?_)) r4⟩
 rw [bj,stepGR_op ho hw,Oper.semAt_eq _ _ _ (fun c e=>by rw [hop] at e;cases e)]
 have fZ:=Frame.finish_atR bb a ops i (rest++rs) k v
 rw [ho] at fZ
 rcases eL with eL | ⟨eL,rfl⟩
 ·simp only [stepG.apply,if_true,Sem.runT_eq,eL,GStep.bare_after,GStep.bare_go]
  rw [fZ];rfl
 ·simp only [stepG.apply,if_true,Sem.runT_eq,eL,GStep.bare_after,GStep.bare_go]
  rw [fZ];rfl
end
end Go.c8
