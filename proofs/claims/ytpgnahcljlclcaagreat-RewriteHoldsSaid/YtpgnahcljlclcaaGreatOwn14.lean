/- Part 14 of my own framework and of the walks of functions: AbsOm. -/
import Derived.Test.YtpgnahcljlclcaaGreatOwn13
set_option linter.unusedVariables false
set_option linter.unusedSectionVars false
set_option linter.unusedSimpArgs false
namespace Go.Abs
open Go
section
variable {P:Program} {X:Nat→Nat→Prop} {base:Nat} {σ:Store} {β:Env} {w:World} {nm:Nat}
theorem Zxu {α:Type} (n:Nat) (hn : 0<n) (w:World) (k:Nat→Sem α):∃ c d,c<n∧(Sem.choose (.mapNext n) k).run P w=(k c).run P { w with drawn:=d }:=by
 by_cases hf:n≤1
 ·refine ⟨0,w.drawn,hn,?_⟩
  simp [Sem.run,Question.forced,hf]
 ·refine ⟨w.tape w.drawn (.mapNext n) % n,w.drawn+1,Nat.mod_lt _ hn,?_⟩
  simp [Sem.run,Question.forced,hf,Question.cut]
def leftE (es:Array MapEntry) (seen:List Nat):Array MapEntry:=es.filter fun e=>!(seen.map fun i=>(es.getD i default).born).toArray.contains e.born
theorem Zmb {es:Array MapEntry} {i:Nat} (h:i<es.size):es.getD i default=es[i]:=by rw [Array.getD_eq_getD_getElem?,Array.getElem?_eq_getElem h];rfl
theorem Zix {es:Array MapEntry} {clk:Nat} {seen:List Nat} (hb:BornOk es clk) (hs:∀ i∈seen,i<es.size) (e:MapEntry):e∈leftE es seen↔∃ i,i<es.size∧i ∉ seen∧e=es.getD i default:=by
 simp only [leftE,Array.mem_filter,Bool.not_eq_true',List.contains_toArray]
 constructor
 ·rintro ⟨h1,h2⟩
  obtain ⟨i,hi,rfl⟩:=Array.mem_iff_getElem.1 h1
  refine ⟨i,hi,fun hm=>?_,(Zmb hi).symm⟩
  have:(seen.map fun i=>(es.getD i default).born).contains es[i].born=true:=by
   rw [List.contains_iff_mem]
   exact List.mem_map.2 ⟨i,hm,by rw [Zmb hi]⟩
  rw [this] at h2;cases h2
 ·rintro ⟨i,hi,hm,rfl⟩
  refine ⟨by rw [Zmb hi];exact Array.getElem_mem hi,?_⟩
  rw [← Bool.not_eq_true,List.contains_iff_mem]
  intro hc
  obtain ⟨j,hj,he⟩:=List.mem_map.1 hc
  exact hm ((hb.2 j i (hs j hj) hi he) ▸ hj)
theorem Ygm {es:Array MapEntry} {clk:Nat} {seen:List Nat} (hb:BornOk es clk) (hs:∀ i∈seen,i<es.size):(leftE es seen).filter (fun e=>decide (e.born<clk))=leftE es seen:=by
 rw [Array.filter_eq_self]
 intro e he
 obtain ⟨i,hi,_,rfl⟩:=(Zix hb hs e).1 he
 simpa using hb.1 i hi
theorem Ygc {es:Array MapEntry} {clk:Nat} {seen:List Nat} (hb:BornOk es clk) (hs:∀ i∈seen,i<es.size):(leftE es seen).filter (fun e=>decide (e.born ≥ clk)) = #[]:=by
 rw [Array.filter_eq_empty_iff]
 intro e he
 obtain ⟨i,hi,_,rfl⟩:=(Zix hb hs e).1 he
 have:=hb.1 i hi
 simp only [ge_iff_le,decide_eq_true_eq];omega
theorem Yp7 {es:Array MapEntry} {clk:Nat} (hb:BornOk es clk):(!es.isEmpty&&es.all fun e=>decide (e.born ≥ clk))=false:=by
 by_cases h:es.isEmpty=true
 ·simp [h]
 ·rw [Bool.and_eq_false_iff]
  right
  rw [← Bool.not_eq_true,Array.all_eq_true]
  intro h2
  have h0 : 0<es.size:=Nat.pos_of_ne_zero fun e=>h (by simp [Array.isEmpty,e])
  have:=h2 0 h0
  have h3:=hb.1 0 h0
  rw [Zmb h0] at h3
  simp only [ge_iff_le,decide_eq_true_eq] at this
  omega
theorem Yhd {g m clk:Nat} {es:Array MapEntry} {seen:List Nat} {t:TypeId} (h1:w.heap[g]? = some (.mapIter (some m) clk (seen.map fun i=>(es.getD i default).born).toArray clk)) (h2:w.heap[m]? = some (.map es clk)) (hb:BornOk es clk) (hs:∀ i∈seen,i<es.size) :
  ((∀ i,i<es.size→i∈seen)∧∃ d,(Instr.next (.pointer (some ⟨g,0,none⟩)) false t).run P w = .ok (.tuple #[.bool false]) { w with drawn:=d }) ∨
  ∃ i,i<es.size∧i ∉ seen∧∃ d,(Instr.next (.pointer (some ⟨g,0,none⟩)) false t).run P w = .ok (.tuple #[.bool true,(es.getD i default).key,(es.getD i default).val]) { w with heap:=w.heap.setIfInBounds g (.mapIter (some m) clk ((seen++[i]).map fun i=>(es.getD i default).born).toArray clk),drawn:=d }:=by
 have g1:(getObj g).run P w = .ok (.mapIter (some m) clk (seen.map fun i=>(es.getD i default).born).toArray clk) w:=by simp [getObj,Sem.run,h1]
 have g2:(getObj m).run P w = .ok (.map es clk) w:=by simp [getObj,Sem.run,h2]
 have g3:∀ (s:Bool),(!s && !es.isEmpty&&es.all fun e=>decide (e.born ≥ clk))=false:=fun s=>by
  rw [Bool.and_assoc,Yp7 hb,Bool.and_false]
 by_cases hl:leftE es seen = #[]
 ·refine .inl ⟨fun i hi=>?_,?_⟩
  ·refine Classical.byContradiction fun hn=>?_
   have:=(Zix hb hs (es.getD i default)).2 ⟨i,hi,hn,rfl⟩
   rw [hl] at this;simp at this
  ·have hl':=hl
   unfold leftE at hl'
   simp only [Instr.next,Sem.run_bind,g1,Result.andThen_ok,g2,g3,Bool.false_eq_true,if_false,hl']
   refine ⟨w.drawn,?_⟩
   simp [choose,Sem.run,Question.forced]
 ·right
  have e1:=Ygm hb hs
  have e2:=Ygc hb hs
  obtain ⟨lf,hlf⟩:∃ lf,leftE es seen=lf:=⟨_,rfl⟩
  rw [hlf] at hl e1 e2
  have hlf':=hlf
  unfold leftE at hlf'
  have hpos : 0<lf.size:=Nat.pos_of_ne_zero fun e=>hl (Array.size_eq_zero_iff.1 e)
  have hemp:lf.isEmpty=false:=by rw [← Bool.not_eq_true];intro h;exact hl (Array.isEmpty_iff.1 h)
  obtain ⟨c,d,hc,hch⟩:=Zxu (P:=P) lf.size hpos w .pure
  have hch':(choose (.mapNext lf.size)).run P w = .ok c { w with drawn:=d }:=by rw [choose,hch];rfl
  obtain ⟨i,hi,hn,he⟩:=(Zix hb hs lf[c]).1 (by rw [hlf];exact Array.getElem_mem hc)
  refine ⟨i,hi,hn,d,?_⟩
  simp only [Instr.next,Sem.run_bind,g1,Result.andThen_ok,g2,g3,Bool.false_eq_true,if_false,hlf',e1,e2,hemp,Array.append_empty,Array.empty_append,Array.size_map,hch',Array.getElem?_map,Array.getElem?_eq_getElem hc,Option.map_some]
  rw [he]
  have g4:∀ ob,(setObj g ob).run P { w with drawn:=d } = .ok () { w with drawn:=d,heap:=w.heap.setIfInBounds g ob }:=fun ob=>by simp [setObj,Sem.run,h1]
  simp only [g4,Result.andThen_ok,Sem.run_pure]
  simp
theorem Yk7 {b:Nat} {blk:Blk} (h:getS σ b=some blk):setS σ b blk = σ:=by
 have hlt:=(List.getElem?_eq_some_iff.1 (Zae h)).1
 have hset:setS σ b blk = σ.set b (some blk):=by simp [setS,hlt]
 rw [hset]
 refine List.ext_getElem? fun j=>?_
 by_cases e:j=b
 ·subst e;rw [List.getElem?_set_self hlt,Zae h]
 ·rw [List.getElem?_set_ne (fun h=>e h.symm)]
theorem Yda (hr:RelS X base σ β w) {ρ:Operand→Value} {o:Oper} {x:Operand} (ho:o.op = .next x false) {b:Nat} {ks vs:List AVal} {seen:List Nat} (hx:Rep w (MT X σ β) β (ρ x) (.it b)) (hb:getS σ b=some (.mit ks vs seen)) :
  ((∀ i,i<ks.length→i∈seen)∧OpOut P X base σ β w nm (execOp ρ o) (.tup [.bool false]) σ) ∨
  ∃ i,i<ks.length∧i ∉ seen∧OpOut P X base σ β w nm (execOp ρ o) (.tup [.bool true,ks.getD i .undef,vs.getD i .undef]) (setS σ b (.mit ks vs (seen++[i]))):=by
 obtain ⟨L',hL,hv⟩:∃ L,β b=some L∧ρ x = .pointer (some ⟨L.g,0,none⟩):=by
  generalize ρ x=v at hx
  cases hx with | it h=>exact ⟨_,h,rfl⟩
 obtain ⟨L,h1,_,_,m,es,clk,h2,h3,h4,h5,h6,h7,h8,h9,h10⟩:=hr.blk b _ (Zae hb)
 obtain rfl:=Option.some.inj (h1.symm.trans hL)
 have hlt2:L.g<w.heap.size:=(Array.getElem?_eq_some_iff.1 h2).1
 rcases Yhd (P:=P) (t:=o.type) h2 h3 h9 (fun i hi=>by have:=h10 i hi;omega) with ⟨q1,d,q2⟩ | ⟨i,q1,q2,d,q3⟩
 ·refine .inl ⟨fun i hi=>q1 i (by omega),?_⟩
  have:=Zes (nm:=nm) (P:=P) (blk':=.mit ks vs seen) (r:=.tup [.bool false]) (s:=execOp ρ o) hr (Zae hb) h1 (w':={ w with drawn:=d }) rfl rfl rfl rfl (fun _ _=>rfl) (fun _ _ hc _=>hc) (fun _=>rfl) (fun _ h=>h) (v:=.tuple #[.bool false])
   (.inl (by simp only [execOp,ho,Sem.run_bind,hv,q2,Result.andThen_ok,Sem.run_pure]))
   (fun M' hk=>⟨m,es,clk,h2,(hk.map _ _ _ h3 h4).1,(hk.map _ _ _ h3 h4).2,h5,h6,fun k hk'=>(h7 k hk').mono hk fun _ _ h=>h,fun k hk'=>(h8 k hk').mono hk fun _ _ h=>h,h9,h10⟩)
   (fun M' _=>.tup rfl fun k hk=>match k,hk with | 0,_=>.bool false)
  rwa [Yk7 hb] at this
 ·refine .inr ⟨i,by omega,q2,?_⟩
  refine Zes (blk':=.mit ks vs (seen++[i])) hr (Zae hb) h1 (w':={ w with heap:=w.heap.setIfInBounds L.g (.mapIter (some m) clk ((seen++[i]).map fun i=>(es.getD i default).born).toArray clk),drawn:=d }) rfl rfl rfl (by simp)
   (fun g hg=>by simp [Array.getElem?_setIfInBounds,Ne.symm hg]) (fun _ _ _ hn=>absurd trivial hn) (fun hn=>absurd trivial (hn 0)) (fun _ _=>trivial) (v:=.tuple #[.bool true,(es.getD i default).key,(es.getD i default).val]) (.inl ?_) (fun M' hk=>?_) (fun M' hk=>?_)
  ·simp only [execOp,ho,Sem.run_bind,hv,q3,Result.andThen_ok,Sem.run_pure]
  ·refine ⟨m,es,clk,?_,(hk.map _ _ _ h3 h4).1,(hk.map _ _ _ h3 h4).2,h5,h6,fun k hk'=>(h7 k hk').mono hk fun _ _ h=>h,fun k hk'=>(h8 k hk').mono hk fun _ _ h=>h,h9,fun j hj=>?_⟩
   ·show ({ w with heap:=w.heap.setIfInBounds L.g _,drawn:=d }:World).heap[L.g]? = _
    simp [Array.getElem?_setIfInBounds,hlt2]
   ·rcases List.mem_append.1 hj with hj | hj
    ·exact h10 j hj
    ·rw [List.mem_singleton.1 hj];omega
  ·refine .tup rfl fun k hk'=>?_
   match k,hk' with
   | 0,_=>exact .bool true
   | 1,_=>exact (h7 i (by omega)).mono hk fun _ _ h=>h
   | 2,_=>exact (h8 i (by omega)).mono hk fun _ _ h=>h
variable {lo:Ctx} {st:St}
theorem EvR.mnext {ops:Array Oper} {rs:List Nat} {i:Nat} {rest:List Nat} {o:Oper} {Q:AExit→St→Prop} (ho:ops[i]? = some o) (hg:gdA ops st.tm o=some true) {x:Operand} (hop:o.op = .next x false) {b:Nat} {ks vs:List AVal} {seen:List Nat}
  (hx:ev st.tm x = .it b) (hb:getS st.σ b=some (.mit ks vs seen))
  (h1:∀ j,j<ks.length→j ∉ seen→EvR P lo ops rs rest ⟨put st.tm o.dst (.tup [.bool true,ks.getD j .undef,vs.getD j .undef]),setS st.σ b (.mit ks vs (seen++[j]))⟩ Q)
  (h2:(∀ j,j<ks.length→j∈seen)→EvR P lo ops rs rest ⟨put st.tm o.dst (.tup [.bool false]),st.σ⟩ Q):EvR P lo ops rs (i :: rest) st Q:=by
 intro X base mb D β a w bb k cs g1 g2 g3
 have hw:=Zc4 g3 hg
 have hxr:=Zdn g3 x
 rw [hx] at hxr
 obtain ⟨r,σ',hlen,hE,h⟩:∃ r σ',st.σ.length≤σ'.length∧OpOut P X base st.σ β w st.σ.length (execOp a.eval o) r σ'∧EvR P lo ops rs rest ⟨put st.tm o.dst r,σ'⟩ Q:=by
  rcases Yda (P:=P) (nm:=st.σ.length) g3.s hop hxr hb with ⟨q1,q2⟩ | ⟨j,q1,q2,q3⟩
  ·exact ⟨_,_,Nat.le_refl _,q2,h2 q1⟩
  ·exact ⟨_,_,Zc2,q3,h1 j q1 q2⟩
 obtain ⟨v,w1,β1,hrun,t1,t2,t3,t4,t5⟩:=hE
 have hrel:=g3.next t1 t3 t5 t2 o.dst
 obtain ⟨e,st',β',a',w',q,r1,r2,r3,rd,r4⟩:=h X base mb D β1 _ w1 bb k cs (Nat.le_trans g1 hlen) (Nat.le_trans g2 t3.size) hrel
 have hext:Ext lo.n st.σ β w σ' β1 w1:=⟨t3.os,t3.tape,t3.output,t3.size,t3.cell,t3.block,t3.newM,fun c hc=>t4 c (by omega)⟩
 refine ⟨e,st',β',a',w',q,r1,r2,hext.trans r3,by rw [rd];cases o.dst<;>rfl, .of_steps (.one (step_lone_go ?_)) r4⟩
 rw [List.cons_append,stepGR_op ho hw,Oper.semAt_eq _ _ _ (fun c e=>by rw [hop] at e;cases e)]
 have hfin:=Frame.finish_atR bb a ops i (rest++rs) k v
 rw [ho] at hfin
 rcases hrun with hrun | ⟨hrun,rfl⟩
 ·simp only [stepG.apply,if_true,Sem.runT_eq,hrun,GStep.bare_after,GStep.bare_go]
  rw [hfin];rfl
 ·simp only [stepG.apply,if_true,Sem.runT_eq,hrun,GStep.bare_after,GStep.bare_go]
  rw [hfin];rfl
end
end Go.Abs
