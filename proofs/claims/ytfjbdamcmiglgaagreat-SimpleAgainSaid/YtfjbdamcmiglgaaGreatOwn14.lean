/- Part 14 of my own framework and of the walks of functions: AbsOm. -/
import Derived.Test.YtfjbdamcmiglgaaGreatOwn13
abbrev fb:=@Bool.and_eq_false_iff
abbrev ib:=@Bool.and_false
abbrev df:=@Bool.not_eq_true
abbrev qf:=@List.contains_iff_mem
abbrev fX:=@List.getElem?_set_self
abbrev aW:=@List.mem_append
abbrev bZ:=@List.mem_map
abbrev aM:=@List.mem_singleton
set_option linter.unusedVariables false
set_option linter.unusedSectionVars false
set_option linter.unusedSimpArgs false
namespace Go.c8
open Go
section
variable {P:Program} {X:Nat→Nat→Prop} {base:Nat} {σ:ai} {β:Env} {w:World} {nm:Nat}
theorem Ya {α:Type} (n:Nat) (hn : 0<n) (w:World) (k:Nat→Sem α):∃ c d,c<n∧(Sem.choose (.mapNext n) k).run P w=(k c).run P { w with drawn:=d }:=by
 by_cases hf:n≤1
 ·refine ⟨0,w.drawn,hn,?_⟩
  simp [Sem.run,Question.forced,hf]
 ·refine ⟨w.tape w.drawn (.mapNext n) % n,w.drawn+1,Nat.mod_lt _ hn,?_⟩
  simp [Sem.run,Question.forced,hf,Question.cut]
def pk (es:Array MapEntry) (seen:List Nat):Array MapEntry:=es.filter fun e=>!(seen.map fun i=>(es.getD i default).born).toArray.contains e.born
theorem Jc {es:Array MapEntry} {i:Nat} (h:i<es.size):es.getD i default=es[i]:=by rw [aj,aD h];rfl
theorem IY {es:Array MapEntry} {clk:Nat} {seen:List Nat} (hb:iT es clk) (hs:∀ i∈seen,i<es.size) (e:MapEntry):e∈pk es seen↔∃ i,i<es.size∧i ∉ seen∧e=es.getD i default:=by
 simp only [pk,Array.mem_filter,bU,List.contains_toArray]
 constructor
 ·rintro ⟨h1,h2⟩
  obtain ⟨i,hi,rfl⟩:=Array.mem_iff_getElem.1 h1
  refine ⟨i,hi,fun hm=>?_,(Jc hi).symm⟩
  have:(seen.map fun i=>(es.getD i default).born).contains es[i].born=true:=by
   rw [qf]
   exact bZ.2 ⟨i,hm,by rw [Jc hi]⟩
  rw [this] at h2;cases h2
 ·rintro ⟨i,hi,hm,rfl⟩
  refine ⟨by rw [Jc hi];exact Array.getElem_mem hi,?_⟩
  rw [← df,qf]
  intro hc
  obtain ⟨j,hj,he⟩:=bZ.1 hc
  exact hm ((hb.2 j i (hs j hj) hi he) ▸ hj)
theorem Yn8 {es:Array MapEntry} {clk:Nat} {seen:List Nat} (hb:iT es clk) (hs:∀ i∈seen,i<es.size):(pk es seen).filter (fun e=>decide (e.born<clk))=pk es seen:=by
 rw [Array.filter_eq_self]
 intro e he
 obtain ⟨i,hi,_,rfl⟩:=(IY hb hs e).1 he
 simpa using hb.1 i hi
theorem Yl0 {es:Array MapEntry} {clk:Nat} {seen:List Nat} (hb:iT es clk) (hs:∀ i∈seen,i<es.size):(pk es seen).filter (fun e=>decide (e.born ≥ clk)) = #[]:=by
 rw [Array.filter_eq_empty_iff]
 intro e he
 obtain ⟨i,hi,_,rfl⟩:=(IY hb hs e).1 he
 have:=hb.1 i hi
 simp only [ge_iff_le,decide_eq_true_eq];omega
theorem Yuv {es:Array MapEntry} {clk:Nat} (hb:iT es clk):(!es.isEmpty&&es.all fun e=>decide (e.born ≥ clk))=false:=by
 by_cases h:es.isEmpty=true
 ·simp [h]
 ·rw [fb]
  right
  rw [← df,Array.all_eq_true]
  intro h2
  have h0 : 0<es.size:=Nat.pos_of_ne_zero fun e=>h (by simp [Array.isEmpty,e])
  have:=h2 0 h0
  have h3:=hb.1 0 h0
  rw [Jc h0] at h3
  simp only [ge_iff_le,decide_eq_true_eq] at this
  omega
theorem Ykn {g m clk:Nat} {es:Array MapEntry} {seen:List Nat} {t:TypeId} (h1:w.heap[g]? = some (.mapIter (some m) clk (seen.map fun i=>(es.getD i default).born).toArray clk)) (h2:w.heap[m]? = some (.map es clk)) (hb:iT es clk) (hs:∀ i∈seen,i<es.size) :
  ((∀ i,i<es.size→i∈seen)∧∃ d,(Instr.next (.pointer (some ⟨g,0,none⟩)) false t).run P w = .ok (.tuple #[.bool false]) { w with drawn:=d }) ∨
  ∃ i,i<es.size∧i ∉ seen∧∃ d,(Instr.next (.pointer (some ⟨g,0,none⟩)) false t).run P w = .ok (.tuple #[.bool true,(es.getD i default).key,(es.getD i default).val]) { w with heap:=w.heap.setIfInBounds g (.mapIter (some m) clk ((seen++[i]).map fun i=>(es.getD i default).born).toArray clk),drawn:=d }:=by
 have g1:(getObj g).run P w = .ok (.mapIter (some m) clk (seen.map fun i=>(es.getD i default).born).toArray clk) w:=by simp [getObj,Sem.run,h1]
 have g2:(getObj m).run P w = .ok (.map es clk) w:=by simp [getObj,Sem.run,h2]
 have g3:∀ (s:Bool),(!s && !es.isEmpty&&es.all fun e=>decide (e.born ≥ clk))=false:=fun s=>by
  rw [Bool.and_assoc,Yuv hb,ib]
 by_cases hl:pk es seen = #[]
 ·refine .inl ⟨fun i hi=>?_,?_⟩
  ·refine Classical.byContradiction fun hn=>?_
   have:=(IY hb hs (es.getD i default)).2 ⟨i,hi,hn,rfl⟩
   rw [hl] at this;simp at this
  ·have GQ:=hl
   unfold pk at GQ
   simp only [Instr.next,Sem.run_bind,g1,Result.andThen_ok,g2,g3,a_,if_false,GQ]
   refine ⟨w.drawn,?_⟩
   simp [choose,Sem.run,Question.forced]
 ·right
  have e1:=Yn8 hb hs
  have e2:=Yl0 hb hs
  obtain ⟨lf,Nx⟩:∃ lf,pk es seen=lf:=⟨_,rfl⟩
  rw [Nx] at hl e1 e2
  have GZ:=Nx
  unfold pk at GZ
  have nq : 0<lf.size:=Nat.pos_of_ne_zero fun e=>hl (Array.size_eq_zero_iff.1 e)
  have Na:lf.isEmpty=false:=by rw [← df];intro h;exact hl (Array.isEmpty_iff.1 h)
  obtain ⟨c,d,hc,hch⟩:=Ya (P:=P) lf.size nq w .pure
  have M6:(choose (.mapNext lf.size)).run P w = .ok c { w with drawn:=d }:=by rw [choose,hch];rfl
  obtain ⟨i,hi,hn,he⟩:=(IY hb hs lf[c]).1 (by rw [Nx];exact Array.getElem_mem hc)
  refine ⟨i,hi,hn,d,?_⟩
  simp only [Instr.next,Sem.run_bind,g1,Result.andThen_ok,g2,g3,a_,if_false,GZ,e1,e2,Na,Array.append_empty,Array.empty_append,Array.size_map,M6,ez,aD hc,bu]
  rw [he]
  have g4:∀ ob,(setObj g ob).run P { w with drawn:=d } = .ok () { w with drawn:=d,heap:=w.heap.setIfInBounds g ob }:=fun ob=>by simp [setObj,Sem.run,h1]
  simp only [g4,Result.andThen_ok,Sem.run_pure]
  simp
theorem Yud {b:Nat} {cg:bE} (h:bH σ b=some cg):b_ σ b cg = σ:=by
 have bG:=(aI.1 (j_ h)).1
 have il:b_ σ b cg = σ.set b (some cg):=by simp [b_,bG]
 rw [il]
 refine bQ fun j=>?_
 by_cases e:j=b
 ·subst e;rw [fX bG,j_ h]
 ·rw [bM (fun h=>e h.symm)]
theorem Yfv (hr:cH X base σ β w) {ρ:Operand→Value} {o:Oper} {x:Operand} (ho:o.op = .next x false) {b:Nat} {ks vs:List ae} {seen:List Nat} (hx:bS w (MT X σ β) β (ρ x) (.it b)) (hb:bH σ b=some (.lu ks vs seen)) :
  ((∀ i,i<ks.length→i∈seen)∧cR P X base σ β w nm (execOp ρ o) (.dA [.bool false]) σ) ∨
  ∃ i,i<ks.length∧i ∉ seen∧cR P X base σ β w nm (execOp ρ o) (.dA [.bool true,ks.getD i .undef,vs.getD i .undef]) (b_ σ b (.lu ks vs (seen++[i]))):=by
 obtain ⟨L',hL,hv⟩:∃ L,β b=some L∧ρ x = .pointer (some ⟨L.g,0,none⟩):=by
  generalize ρ x=v at hx
  cases hx with | it h=>exact ⟨_,h,rfl⟩
 obtain ⟨L,h1,_,_,m,es,clk,h2,h3,h4,h5,h6,h7,h8,h9,ur⟩:=hr.cg b _ (j_ hb)
 obtain rfl:=aN (h1.symm.trans hL)
 have pf:L.g<w.heap.size:=(aL.1 h2).1
 rcases Ykn (P:=P) (t:=o.type) h2 h3 h9 (fun i hi=>by have:=ur i hi;omega) with ⟨q1,d,q2⟩ | ⟨i,q1,q2,d,q3⟩
 ·refine .inl ⟨fun i hi=>q1 i (by omega),?_⟩
  have:=Ct (nm:=nm) (P:=P) (kW:=.lu ks vs seen) (r:=.dA [.bool false]) (s:=execOp ρ o) hr (j_ hb) h1 (w':={ w with drawn:=d }) rfl rfl rfl rfl (fun _ _=>rfl) (fun _ _ hc _=>hc) (fun _=>rfl) (fun _ h=>h) (v:=.tuple #[.bool false])
   (.inl (by simp only [execOp,ho,Sem.run_bind,hv,q2,Result.andThen_ok,Sem.run_pure]))
   (fun M' hk=>⟨m,es,clk,h2,(hk.map _ _ _ h3 h4).1,(hk.map _ _ _ h3 h4).2,h5,h6,fun k eE=>(h7 k eE).mono hk fun _ _ h=>h,fun k eE=>(h8 k eE).mono hk fun _ _ h=>h,h9,ur⟩)
   (fun M' _=>.dA rfl fun k hk=>match k,hk with | 0,_=>.bool false)
  rwa [Yud hb] at this
 ·refine .inr ⟨i,by omega,q2,?_⟩
  refine Ct (kW:=.lu ks vs (seen++[i])) hr (j_ hb) h1 (w':={ w with heap:=w.heap.setIfInBounds L.g (.mapIter (some m) clk ((seen++[i]).map fun i=>(es.getD i default).born).toArray clk),drawn:=d }) rfl rfl rfl (by simp)
   (fun g hg=>by simp [bD,gA hg]) (fun _ _ _ hn=>absurd trivial hn) (fun hn=>absurd trivial (hn 0)) (fun _ _=>trivial) (v:=.tuple #[.bool true,(es.getD i default).key,(es.getD i default).val]) (.inl ?_) (fun M' hk=>?_) (fun M' hk=>?_)
  ·simp only [execOp,ho,Sem.run_bind,hv,q3,Result.andThen_ok,Sem.run_pure]
  ·refine ⟨m,es,clk,?_,(hk.map _ _ _ h3 h4).1,(hk.map _ _ _ h3 h4).2,h5,h6,fun k eE=>(h7 k eE).mono hk fun _ _ h=>h,fun k eE=>(h8 k eE).mono hk fun _ _ h=>h,h9,fun j hj=>?_⟩
   ·show ({ w with heap:=w.heap.setIfInBounds L.g _,drawn:=d }:World).heap[L.g]? = _
    simp [bD,pf]
   ·rcases aW.1 hj with hj | hj
    ·exact ur j hj
    ·rw [aM.1 hj];omega
  ·refine .dA rfl fun k eE=>?_
   match k,eE with
   | 0,_=>exact .bool true
   | 1,_=>exact (h7 i (by omega)).mono hk fun _ _ h=>h
   | 2,_=>exact (h8 i (by omega)).mono hk fun _ _ h=>h
variable {lo:Ctx} {st:St}
theorem mg.Hr {ops:Array Oper} {rs:List Nat} {i:Nat} {rest:List Nat} {o:Oper} {Q:cb→St→Prop} (ho:ops[i]? = some o) (hg:my ops st.tm o=some true) {x:Operand} (hop:o.op = .next x false) {b:Nat} {ks vs:List ae} {seen:List Nat}
  (hx:ev st.tm x = .it b) (hb:bH st.σ b=some (.lu ks vs seen))
  (h1:∀ j,j<ks.length→j ∉ seen→mg P lo ops rs rest ⟨put st.tm o.dst (.dA [.bool true,ks.getD j .undef,vs.getD j .undef]),b_ st.σ b (.lu ks vs (seen++[j]))⟩ Q)
  (h2:(∀ j,j<ks.length→j∈seen)→mg P lo ops rs rest ⟨put st.tm o.dst (.dA [.bool false]),st.σ⟩ Q):mg P lo ops rs (i :: rest) st Q:=by
 intro X base mb D β a w bb k cs g1 g2 g3
 have hw:=zU g3 hg
 have BZ:=vn g3 x
 rw [hx] at BZ
 obtain ⟨r,σ',hlen,hE,h⟩:∃ r σ',st.σ.length≤σ'.length∧cR P X base st.σ β w st.σ.length (execOp a.eval o) r σ'∧mg P lo ops rs rest ⟨put st.tm o.dst r,σ'⟩ Q:=by
  rcases Yfv (P:=P) (nm:=st.σ.length) g3.s hop BZ hb with ⟨q1,q2⟩ | ⟨j,q1,q2,q3⟩
  ·exact ⟨_,_,ah _,q2,h2 q1⟩
  ·exact ⟨_,_,wR,q3,h1 j q1 q2⟩
 obtain ⟨v,w1,eX,eS,t1,t2,t3,t4,t5⟩:=hE
 have hrel:=g3.next t1 t3 t5 t2 o.dst
 obtain ⟨e,ef,β',a',w',q,r1,r2,r3,rd,r4⟩:=h X base mb D eX _ w1 bb k cs (cV g1 hlen) (cV g2 t3.size) hrel
 have pQ:Ext lo.n st.σ β w σ' eX w1:=⟨t3.os,t3.tape,t3.output,t3.size,t3.cell,t3.block,t3.iL,fun c hc=>t4 c (by omega)⟩
 refine ⟨e,ef,β',a',w',q,r1,r2,pQ.trans r3,by rw [rd];cases o.dst<;>rfl, .of_steps (.one (step_lone_go ?_)) r4⟩
 rw [bn,stepGR_op ho hw,Oper.semAt_eq _ _ _ (fun c e=>by rw [hop] at e;cases e)]
 have gB:=Frame.finish_atR bb a ops i (rest++rs) k v
 rw [ho] at gB
 rcases eS with eS | ⟨eS,rfl⟩
 ·simp only [stepG.apply,if_true,Sem.runT_eq,eS,GStep.bare_after,GStep.bare_go]
  rw [gB];rfl
 ·simp only [stepG.apply,if_true,Sem.runT_eq,eS,GStep.bare_after,GStep.bare_go]
  rw [gB];rfl
end
end Go.c8
