/- Part 14 of my own framework and of the walks of functions: AbsOm. -/
import Derived.Test.YtfjbdamcmiglgaaGreatOwn13
abbrev eY:=@Bool.and_eq_false_iff
abbrev gW:=@Bool.and_false
abbrev dj:=@Bool.not_eq_true
abbrev p9:=@List.contains_iff_mem
abbrev fK:=@List.getElem?_set_self
abbrev aX:=@List.mem_append
abbrev bW:=@List.mem_map
abbrev aQ:=@List.mem_singleton
set_option linter.unusedVariables false
set_option linter.unusedSectionVars false
set_option linter.unusedSimpArgs false
namespace Go.cV
open Go
section
variable {P:Program} {X:Nat→Nat→Prop} {base:Nat} {σ:ai} {β:Env} {w:World} {nm:Nat}
theorem WG {α:Type} (n:Nat) (hn : 0<n) (w:World) (k:Nat→Sem α):∃ c d,c<n∧(Sem.choose (.mapNext n) k).run P w=(k c).run P { w with drawn:=d }:=by
 by_cases hf:n≤1
 ·refine ⟨0,w.drawn,hn,?_⟩
  simp [Sem.run,Question.forced,hf]
 ·refine ⟨w.tape w.drawn (.mapNext n) % n,w.drawn+1,Nat.mod_lt _ hn,?_⟩
  simp [Sem.run,Question.forced,hf,Question.cut]
def oV (es:Array MapEntry) (seen:List Nat):Array MapEntry:=es.filter fun e=>!(seen.map fun i=>(es.getD i default).born).toArray.contains e.born
theorem IH {es:Array MapEntry} {i:Nat} (h:i<es.size):es.getD i default=es[i]:=by rw [aj,aB h];rfl
theorem H6 {es:Array MapEntry} {clk:Nat} {seen:List Nat} (hb:iK es clk) (hs:∀ i∈seen,i<es.size) (e:MapEntry):e∈oV es seen↔∃ i,i<es.size∧i ∉ seen∧e=es.getD i default:=by
 simp only [oV,Array.mem_filter,bT,List.contains_toArray]
 constructor
 ·rintro ⟨h1,h2⟩
  obtain ⟨i,hi,rfl⟩:=Array.mem_iff_getElem.1 h1
  refine ⟨i,hi,fun hm=>?_,(IH hi).symm⟩
  have:(seen.map fun i=>(es.getD i default).born).contains es[i].born=true:=by
   rw [p9]
   exact bW.2 ⟨i,hm,by rw [IH hi]⟩
  rw [this] at h2;cases h2
 ·rintro ⟨i,hi,hm,rfl⟩
  refine ⟨by rw [IH hi];exact Array.getElem_mem hi,?_⟩
  rw [← dj,p9]
  intro hc
  obtain ⟨j,hj,he⟩:=bW.1 hc
  exact hm ((hb.2 j i (hs j hj) hi he) ▸ hj)
theorem Ym6 {es:Array MapEntry} {clk:Nat} {seen:List Nat} (hb:iK es clk) (hs:∀ i∈seen,i<es.size):(oV es seen).filter (fun e=>decide (e.born<clk))=oV es seen:=by
 rw [Array.filter_eq_self]
 intro e he
 obtain ⟨i,hi,_,rfl⟩:=(H6 hb hs e).1 he
 simpa using hb.1 i hi
theorem Ykl {es:Array MapEntry} {clk:Nat} {seen:List Nat} (hb:iK es clk) (hs:∀ i∈seen,i<es.size):(oV es seen).filter (fun e=>decide (e.born ≥ clk)) = #[]:=by
 rw [Array.filter_eq_empty_iff]
 intro e he
 obtain ⟨i,hi,_,rfl⟩:=(H6 hb hs e).1 he
 have:=hb.1 i hi
 simp only [ge_iff_le,decide_eq_true_eq];omega
theorem Ywl {es:Array MapEntry} {clk:Nat} (hb:iK es clk):(!es.isEmpty&&es.all fun e=>decide (e.born ≥ clk))=false:=by
 by_cases h:es.isEmpty=true
 ·simp [h]
 ·rw [eY]
  right
  rw [← dj,Array.all_eq_true]
  intro h2
  have h0 : 0<es.size:=Nat.pos_of_ne_zero fun e=>h (by simp [Array.isEmpty,e])
  have:=h2 0 h0
  have h3:=hb.1 0 h0
  rw [IH h0] at h3
  simp only [ge_iff_le,decide_eq_true_eq] at this
  omega
theorem Ymj {g m clk:Nat} {es:Array MapEntry} {seen:List Nat} {t:TypeId} (h1:w.heap[g]? = some (.mapIter (some m) clk (seen.map fun i=>(es.getD i default).born).toArray clk)) (h2:w.heap[m]? = some (.map es clk)) (hb:iK es clk) (hs:∀ i∈seen,i<es.size) :
  ((∀ i,i<es.size→i∈seen)∧∃ d,(Instr.next (.pointer (some ⟨g,0,none⟩)) false t).run P w = .ok (.tuple #[.bool false]) { w with drawn:=d }) ∨
  ∃ i,i<es.size∧i ∉ seen∧∃ d,(Instr.next (.pointer (some ⟨g,0,none⟩)) false t).run P w = .ok (.tuple #[.bool true,(es.getD i default).key,(es.getD i default).val]) { w with heap:=w.heap.setIfInBounds g (.mapIter (some m) clk ((seen++[i]).map fun i=>(es.getD i default).born).toArray clk),drawn:=d }:=by
 have g1:(getObj g).run P w = .ok (.mapIter (some m) clk (seen.map fun i=>(es.getD i default).born).toArray clk) w:=by simp [getObj,Sem.run,h1]
 have g2:(getObj m).run P w = .ok (.map es clk) w:=by simp [getObj,Sem.run,h2]
 have g3:∀ (s:Bool),(!s && !es.isEmpty&&es.all fun e=>decide (e.born ≥ clk))=false:=fun s=>by
  rw [Bool.and_assoc,Ywl hb,gW]
 by_cases hl:oV es seen = #[]
 ·refine .inl ⟨fun i hi=>?_,?_⟩
  ·refine Classical.byContradiction fun hn=>?_
   have:=(H6 hb hs (es.getD i default)).2 ⟨i,hi,hn,rfl⟩
   rw [hl] at this;simp at this
  ·have Gq:=hl
   unfold oV at Gq
   simp only [Instr.next,Sem.run_bind,g1,Result.andThen_ok,g2,g3,a8,if_false,Gq]
   refine ⟨w.drawn,?_⟩
   simp [choose,Sem.run,Question.forced]
 ·right
  have e1:=Ym6 hb hs
  have e2:=Ykl hb hs
  obtain ⟨lf,M8⟩:∃ lf,oV es seen=lf:=⟨_,rfl⟩
  rw [M8] at hl e1 e2
  have Gw:=M8
  unfold oV at Gw
  have nG : 0<lf.size:=Nat.pos_of_ne_zero fun e=>hl (Array.size_eq_zero_iff.1 e)
  have MK:lf.isEmpty=false:=by rw [← dj];intro h;exact hl (Array.isEmpty_iff.1 h)
  obtain ⟨c,d,hc,hch⟩:=WG (P:=P) lf.size nG w .pure
  have ME:(choose (.mapNext lf.size)).run P w = .ok c { w with drawn:=d }:=by rw [choose,hch];rfl
  obtain ⟨i,hi,hn,he⟩:=(H6 hb hs lf[c]).1 (by rw [M8];exact Array.getElem_mem hc)
  refine ⟨i,hi,hn,d,?_⟩
  simp only [Instr.next,Sem.run_bind,g1,Result.andThen_ok,g2,g3,a8,if_false,Gw,e1,e2,MK,Array.append_empty,Array.empty_append,Array.size_map,ME,eo,aB hc,bw]
  rw [he]
  have g4:∀ ob,(setObj g ob).run P { w with drawn:=d } = .ok () { w with drawn:=d,heap:=w.heap.setIfInBounds g ob }:=fun ob=>by simp [setObj,Sem.run,h1]
  simp only [g4,Result.andThen_ok,Sem.run_pure]
  simp
theorem Yqx {b:Nat} {cf:bE} (h:bF σ b=some cf):b_ σ b cf = σ:=by
 have bD:=(aH.1 (jU h)).1
 have h_:b_ σ b cf = σ.set b (some cf):=by simp [b_,bD]
 rw [h_]
 refine bO fun j=>?_
 by_cases e:j=b
 ·subst e;rw [fK bD,jU h]
 ·rw [bK (fun h=>e h.symm)]
theorem Yw (hr:cF X base σ β w) {ρ:Operand→Value} {o:Oper} {x:Operand} (ho:o.op = .next x false) {b:Nat} {ks vs:List ae} {seen:List Nat} (hx:bR w (MT X σ β) β (ρ x) (.it b)) (hb:bF σ b=some (.kZ ks vs seen)) :
  ((∀ i,i<ks.length→i∈seen)∧cO P X base σ β w nm (execOp ρ o) (.dy [.bool false]) σ) ∨
  ∃ i,i<ks.length∧i ∉ seen∧cO P X base σ β w nm (execOp ρ o) (.dy [.bool true,ks.getD i .undef,vs.getD i .undef]) (b_ σ b (.kZ ks vs (seen++[i]))):=by
 obtain ⟨L',hL,hv⟩:∃ L,β b=some L∧ρ x = .pointer (some ⟨L.g,0,none⟩):=by
  generalize ρ x=v at hx
  cases hx with | it h=>exact ⟨_,h,rfl⟩
 obtain ⟨L,h1,_,_,m,es,clk,h2,h3,h4,h5,h6,h7,h8,h9,ub⟩:=hr.cf b _ (jU hb)
 obtain rfl:=aM (h1.symm.trans hL)
 have oR:L.g<w.heap.size:=(aL.1 h2).1
 rcases Ymj (P:=P) (t:=o.type) h2 h3 h9 (fun i hi=>by have:=ub i hi;omega) with ⟨q1,d,q2⟩ | ⟨i,q1,q2,d,q3⟩
 ·refine .inl ⟨fun i hi=>q1 i (by omega),?_⟩
  have:=Cl (nm:=nm) (P:=P) (kG:=.kZ ks vs seen) (r:=.dy [.bool false]) (s:=execOp ρ o) hr (jU hb) h1 (w':={ w with drawn:=d }) rfl rfl rfl rfl (fun _ _=>rfl) (fun _ _ hc _=>hc) (fun _=>rfl) (fun _ h=>h) (v:=.tuple #[.bool false])
   (.inl (by simp only [execOp,ho,Sem.run_bind,hv,q2,Result.andThen_ok,Sem.run_pure]))
   (fun M' hk=>⟨m,es,clk,h2,(hk.map _ _ _ h3 h4).1,(hk.map _ _ _ h3 h4).2,h5,h6,fun k eA=>(h7 k eA).mono hk fun _ _ h=>h,fun k eA=>(h8 k eA).mono hk fun _ _ h=>h,h9,ub⟩)
   (fun M' _=>.dy rfl fun k hk=>match k,hk with | 0,_=>.bool false)
  rwa [Yqx hb] at this
 ·refine .inr ⟨i,by omega,q2,?_⟩
  refine Cl (kG:=.kZ ks vs (seen++[i])) hr (jU hb) h1 (w':={ w with heap:=w.heap.setIfInBounds L.g (.mapIter (some m) clk ((seen++[i]).map fun i=>(es.getD i default).born).toArray clk),drawn:=d }) rfl rfl rfl (by simp)
   (fun g hg=>by simp [bC,fY hg]) (fun _ _ _ hn=>absurd trivial hn) (fun hn=>absurd trivial (hn 0)) (fun _ _=>trivial) (v:=.tuple #[.bool true,(es.getD i default).key,(es.getD i default).val]) (.inl ?_) (fun M' hk=>?_) (fun M' hk=>?_)
  ·simp only [execOp,ho,Sem.run_bind,hv,q3,Result.andThen_ok,Sem.run_pure]
  ·refine ⟨m,es,clk,?_,(hk.map _ _ _ h3 h4).1,(hk.map _ _ _ h3 h4).2,h5,h6,fun k eA=>(h7 k eA).mono hk fun _ _ h=>h,fun k eA=>(h8 k eA).mono hk fun _ _ h=>h,h9,fun j hj=>?_⟩
   ·show ({ w with heap:=w.heap.setIfInBounds L.g _,drawn:=d }:World).heap[L.g]? = _
    simp [bC,oR]
   ·rcases aX.1 hj with hj | hj
    ·exact ub j hj
    ·rw [aQ.1 hj];omega
  ·refine .dy rfl fun k eA=>?_
   match k,eA with
   | 0,_=>exact .bool true
   | 1,_=>exact (h7 i (by omega)).mono hk fun _ _ h=>h
   | 2,_=>exact (h8 i (by omega)).mono hk fun _ _ h=>h
variable {lo:Ctx} {st:St}
theorem lW.G5 {ops:Array Oper} {rs:List Nat} {i:Nat} {rest:List Nat} {o:Oper} {Q:cb→St→Prop} (ho:ops[i]? = some o) (hg:l8 ops st.tm o=some true) {x:Operand} (hop:o.op = .next x false) {b:Nat} {ks vs:List ae} {seen:List Nat}
  (hx:ev st.tm x = .it b) (hb:bF st.σ b=some (.kZ ks vs seen))
  (h1:∀ j,j<ks.length→j ∉ seen→lW P lo ops rs rest ⟨put st.tm o.dst (.dy [.bool true,ks.getD j .undef,vs.getD j .undef]),b_ st.σ b (.kZ ks vs (seen++[j]))⟩ Q)
  (h2:(∀ j,j<ks.length→j∈seen)→lW P lo ops rs rest ⟨put st.tm o.dst (.dy [.bool false]),st.σ⟩ Q):lW P lo ops rs (i :: rest) st Q:=by
 intro X base mb D β a w bb k cs g1 g2 g3
 have hw:=zI g3 hg
 have BP:=va g3 x
 rw [hx] at BP
 obtain ⟨r,σ',hlen,hE,h⟩:∃ r σ',st.σ.length≤σ'.length∧cO P X base st.σ β w st.σ.length (execOp a.eval o) r σ'∧lW P lo ops rs rest ⟨put st.tm o.dst r,σ'⟩ Q:=by
  rcases Yw (P:=P) (nm:=st.σ.length) g3.s hop BP hb with ⟨q1,q2⟩ | ⟨j,q1,q2,q3⟩
  ·exact ⟨_,_,ah _,q2,h2 q1⟩
  ·exact ⟨_,_,wG,q3,h1 j q1 q2⟩
 obtain ⟨v,w1,eS,eO,t1,t2,t3,t4,t5⟩:=hE
 have hrel:=g3.next t1 t3 t5 t2 o.dst
 obtain ⟨e,dZ,β',a',w',q,r1,r2,r3,rd,r4⟩:=h X base mb D eS _ w1 bb k cs (cR g1 hlen) (cR g2 t3.size) hrel
 have pI:Ext lo.n st.σ β w σ' eS w1:=⟨t3.os,t3.tape,t3.output,t3.size,t3.cell,t3.block,t3.iC,fun c hc=>t4 c (by omega)⟩
 refine ⟨e,dZ,β',a',w',q,r1,r2,pI.trans r3,by rw [rd];cases o.dst<;>rfl, .of_steps (.one (step_lone_go ?_)) r4⟩
 rw [bj,stepGR_op ho hw,Oper.semAt_eq _ _ _ (fun c e=>by rw [hop] at e;cases e)]
 have fZ:=Frame.finish_atR bb a ops i (rest++rs) k v
 rw [ho] at fZ
 rcases eO with eO | ⟨eO,rfl⟩
 ·simp only [stepG.apply,if_true,Sem.runT_eq,eO,GStep.bare_after,GStep.bare_go]
  rw [fZ];rfl
 ·simp only [stepG.apply,if_true,Sem.runT_eq,eO,GStep.bare_after,GStep.bare_go]
  rw [fZ];rfl
end
end Go.cV
