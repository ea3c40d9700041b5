/- Part 24 of my own framework and of the walks of functions: AbsY. -/
import Derived.Test.YtpgnahcljlclcaaGreatOwn23
set_option linter.unusedVariables false
set_option linter.unusedSectionVars false
set_option linter.unusedSimpArgs false
namespace Go.Abs
open Go
theorem Ykk {P:Program} {op:Op} {tm:List AVal} {σ:Store} {nm:Nat} {r:AVal} {σ1:Store} (h:¬ ∃ fo args ts,op = .call { callee:=.value fo,args,argTypes:=ts }):DoOp P op tm σ nm r σ1=(opE P σ nm (ev tm) op=some (r,σ1)):=by
 unfold DoOp
 split
 ·exact absurd ⟨_,_,_,rfl⟩ h
 ·rfl
section
variable {P:Program} {X:Nat→Nat→Prop} {base mb:Nat} {D:List Deferred} {tm:List AVal} {σ:Store} {β:Env} {a:Act} {w:World}
theorem Zqp {st:St} {n:Nat} (h:Rel X base mb D st β a w):Rel X base mb D st β a { w with drawn:=n }:=by
 have hk:∀ M,Keeps w M { w with drawn:=n } M:=fun M=>⟨fun g o v h1 h2=>⟨h1,h2⟩,fun g es c h1 h2=>⟨h1,h2⟩⟩
 refine ⟨⟨h.s.dom,fun b blk hb=>?_,h.s.inj,h.s.size,h.s.xlt,h.s.gl⟩,h.n,fun k hk'=>(h.t k hk').mono (hk _) (fun _ _ h=>h),h.d⟩
 obtain ⟨L,q1,q2,q3,q4⟩:=h.s.blk b blk hb
 exact ⟨L,q1,q2,q3,q4.mono (hk _) (fun _ _ h=>h) rfl⟩
theorem DoOp.step {ops:Array Oper} {i:Nat} {rest:List Nat} {o:Oper} {f:Fp} {r:AVal} {σ1:Store} (h:Rel X base mb D ⟨tm,σ⟩ β a w) (ho:ops[i]? = some o) (hg:gdA ops tm o=some true)
  (hd:DoOp P o.op tm (maskF f σ) (f.name σ) r σ1) (hs:sameO f.wr 0 σ1 (maskF f σ)) (hdis:∀ c∈f.wr,c ∉ f.hd) (hn : β (f.name σ)=none) (b:Frame) (k:List Item) (cs:List Frame) :
  ∃ β1 a1 w1,Rel X base mb D ⟨put tm o.dst r,mergeW f.wr 0 σ1 σ⟩ β1 a1 w1∧Ext 0 σ β w (mergeW f.wr 0 σ1 σ) β1 w1∧(∀ c,c≠f.name σ→c < σ.length→β1 c = β c) ∧
   Steps P (lone (b.atR a (.inRegion ops (i :: rest) :: k)) cs w) (lone (b.atR a1 (.inRegion ops rest :: k)) cs w1):=by
 have hw:=Zc4 h hg
 have hl : σ1.length = σ.length:=by rw [Zcl hs,maskF,Zb4]
 have hvis:∀ c,c < σ.length→(!f.hd.contains c)=false→σ1[c]? = some none:=fun c hc hv=>by
  have hin:c∈f.hd:=by simpa using hv
  rw [Zjm hs c (by rw [Nat.zero_add];exact fun q=>hdis c q hin),maskF,Zbo,Nat.zero_add,hv,List.getElem?_eq_getElem hc];rfl
 rw [Zvm hs hdis]
 by_cases hc:∃ fo args ts,o.op = .call { callee:=.value fo,args,argTypes:=ts }
 ·obtain ⟨fo,args,ts,hop⟩:=hc
  rw [hop] at hd
  obtain ⟨r',σ',β',v,w1,⟨rfl,rfl⟩,g1,g2,g3,g4,f1,cs1,w2,g5,g6⟩:=hd (hid X (fun c=>!f.hd.contains c) σ β) base β w (a.eval fo) (args.map a.eval) h.s.hide ((Zdn h fo).mono (Zci h.s) (fun _ _ h=>h)) (by simp) (fun j hj=>by
   simp only [List.length_map,Array.length_toList] at hj
   rw [Array.getD_eq_getD_getElem?,Array.getElem?_map,Array.getElem?_eq_getElem hj]
   simp only [List.getD,List.getElem?_map,Array.getElem?_toList,Array.getElem?_eq_getElem hj,Option.map_some,Option.getD_some]
   exact (Zdn h _).mono (Zci h.s) (fun _ _ h=>h)) (b.atR a (.inRegion ops (i :: rest) :: k)) cs (fun d b' s a' k' e=>by simp [Frame.atR] at e)
  rw [maskF,Zb4] at g4
  have hβ:∀ c L,β c=some L→β' c=some L:=fun c L hc=>by
   rw [g3.env c ?_]
   ·exact hc
   ·rw [maskF,Zb4]
    refine Nat.lt_of_not_le fun hle=>?_
    rw [h.s.dom c hle] at hc;cases hc
  obtain ⟨e1,e2,e3⟩:=h.s.unhide g1 (g3.lower (Nat.zero_le _)) hβ (Nat.le_of_eq hl.symm) hvis
  refine ⟨β',_,w1,h.next e1 e2 hβ (g2.mono e3 (fun _ _ h=>h)) o.dst,e2,fun c _ hc=>g3.env c (by rw [maskF,Zb4];exact hc), .head (step_lone_go ?_) (g6.trans ?_)⟩
  ·rw [stepGR_op ho hw,Oper.semAt_eq _ _ _ (fun c e=>by rw [hop] at e;cases e)]
   rw [← g5]
   congr 2
   simp only [execOp,hop,resolve]
  ·have hfin:=Frame.finish_atR b a ops i rest k v
   rw [ho] at hfin
   rw [hfin];exact .refl _ _
 ·have hE:opE P (maskF f σ) (f.name σ) (ev tm) o.op=some (r,σ1):=by
   unfold DoOp at hd
   split at hd
   ·rename_i fo args ts hop;exact absurd ⟨_,_,_,hop⟩ hc
   ·exact hd
  obtain ⟨v,w1,β1,hrun,g1,g2,g3,g4,g5⟩:=Zno (P:=P) (o:=o) (h.s.hide (vis:=fun c=>!f.hd.contains c)) hn (fun x=>(Zdn h x).mono (Zci h.s) (fun _ _ h=>h)) (fun _=>rfl) hE
  obtain ⟨e1,e2,e3⟩:=h.s.unhide g1 g3 g5 (Nat.le_of_eq hl.symm) hvis
  refine ⟨β1,_,w1,h.next e1 e2 g5 (g2.mono e3 (fun _ _ h=>h)) o.dst,e2,fun c hne _=>g4 c hne, .one (step_lone_go ?_)⟩
  rw [stepGR_op ho hw,Oper.semAt_eq _ _ _ (Zou hE)]
  have hfin:=Frame.finish_atR b a ops i rest k v
  rw [ho] at hfin
  rcases hrun with hrun | ⟨hrun,rfl⟩
  ·simp only [stepG.apply,if_true,Sem.runT_eq,hrun,GStep.bare_after,GStep.bare_go]
   rw [hfin];rfl
  ·simp only [stepG.apply,if_true,Sem.runT_eq,hrun,GStep.bare_after,GStep.bare_go]
   rw [hfin];rfl
end
section
variable {P:Program} {lo:Ctx} {Q:AExit→St→Prop} {k:List KI} {ops:Array Oper}
def StepT (P:Program) (ops:Array Oper) (f:Fp) (o:Oper) (tm:List AVal) (σ:Store) (tm':List AVal) (σ':Store):Prop :=
 (gdA ops tm o=some false∧tm'=put tm o.dst gone∧σ' = σ) ∨
 (gdA ops tm o=some true∧∃ r σ1,DoOp P o.op tm (maskF f σ) (f.name σ) r σ1∧sameO f.wr 0 σ1 (maskF f σ)∧tm'=put tm o.dst r∧σ'=mergeW f.wr 0 σ1 σ)
theorem StepT.len {f:Fp} {o:Oper} {tm tm':List AVal} {σ σ':Store} (h:StepT P ops f o tm σ tm' σ'):tm'.length=tm.length∧σ'.length = σ.length:=by
 rcases h with ⟨_,rfl,rfl⟩ | ⟨_,r,σ1,_,h2,rfl,rfl⟩
 ·exact ⟨Zbx _ _ _,rfl⟩
 ·exact ⟨Zbx _ _ _,Zg1 (by rw [Zcl h2,maskF,Zb4])⟩
theorem Zg7:∀ (l:List Oper) (fs:List Fp) (tm:List AVal) (σ:Store),drawK P lo Q k ops l fs tm σ →
  ∃ (TM:Nat→List AVal) (SS:Nat→Store),TM 0=tm∧SS 0 = σ∧(∀ i o,l[i]? = some o→StepT P ops (fs.getD i .no) o (TM i) (SS i) (TM (i+1)) (SS (i+1)))∧EvK P lo Q k .normal ⟨TM l.length,SS l.length⟩
 | [],fs,tm,σ,h=>⟨fun _=>tm,fun _=>σ,rfl,rfl,fun i o hi=>by simp at hi,h⟩
 | o :: l,fs,tm,σ,h=>by
  obtain ⟨g,hg,h0,h1⟩:=h
  have hfs:∀ i,fs.tail.getD i .no=fs.getD (i+1) .no:=fun i=>by cases fs<;>simp
  have hf0:fs.headD .no=fs.getD 0 .no:=by cases fs<;>rfl
  cases g with
  | false =>
   obtain ⟨TM,SS,e1,e2,e3,e4⟩:=Zg7 l fs.tail _ _ (h0 rfl)
   refine ⟨fun i=>match i with | 0=>tm | i+1=>TM i,fun i=>match i with | 0=>σ | i+1=>SS i,rfl,rfl,fun i o' hi=>?_,e4⟩
   cases i with
   | zero =>
    simp only [List.getElem?_cons_zero,Option.some.injEq] at hi
    subst hi
    exact .inl ⟨hg,e1,e2⟩
   | succ i=>have:=e3 i o' (by simpa using hi);rw [hfs] at this;exact this
  | true =>
   obtain ⟨r,σ1,q1,q2,q3⟩:=h1 rfl
   obtain ⟨TM,SS,e1,e2,e3,e4⟩:=Zg7 l fs.tail _ _ q3
   refine ⟨fun i=>match i with | 0=>tm | i+1=>TM i,fun i=>match i with | 0=>σ | i+1=>SS i,rfl,rfl,fun i o' hi=>?_,e4⟩
   cases i with
   | zero =>
    simp only [List.getElem?_cons_zero,Option.some.injEq] at hi
    subst hi
    rw [hf0] at q1 q2 e2
    exact .inr ⟨hg,r,σ1,q1,q2,e1,e2⟩
   | succ i=>have:=e3 i o' (by simpa using hi);rw [hfs] at this;exact this
theorem Znj {o:Oper} {tm tm':List AVal} (hl:tm'.length=tm.length) (h:∀ t∈o.looksAt ops,tm'.getD t .undef=tm.getD t .undef):gdA ops tm' o=gdA ops tm o:=by
 unfold gdA
 cases hg:o.guard with
 | none=>rfl
 | some p =>
  obtain ⟨j,want⟩:=p
  simp only
  cases hd:(ops[j]?).bind (·.dst) with
  | none=>rfl
  | some d =>
   have hin:d∈o.looksAt ops:=by simp [Oper.looksAt,hg,hd]
   have:=h d hin
   have e:tm'[d]? = tm[d]?:=by
    by_cases hlt:d<tm.length
    ·have hlt':d<tm'.length:=by rw [hl];exact hlt
     rw [List.getElem?_eq_getElem hlt,List.getElem?_eq_getElem hlt']
     simp only [List.getD,List.getElem?_eq_getElem hlt,List.getElem?_eq_getElem hlt',Option.getD_some] at this
     rw [this]
    ·have hlt':¬ d<tm'.length:=by rw [hl];exact hlt
     rw [List.getElem?_eq_none (Nat.le_of_not_lt hlt),List.getElem?_eq_none (Nat.le_of_not_lt hlt')]
   simp only [e]
theorem Zj0 {o:Oper} {tm tm':List AVal} (h:∀ t∈o.looksAt ops,tm'.getD t .undef=tm.getD t .undef):∀ x∈o.op.operands,ev tm' x=ev tm x:=by
 intro x hx
 cases x with
 | tmp t=>exact h t (by simp only [Oper.looksAt,List.mem_append,List.mem_filterMap];exact .inl ⟨.tmp t,by simpa using hx,rfl⟩)
 | _=>rfl
theorem DoOp.congr {o:Oper} {tm tm':List AVal} {σ:Store} {nm:Nat} {r:AVal} {σ1:Store} (h:∀ x∈o.op.operands,ev tm' x=ev tm x) (hd:DoOp P o.op tm σ nm r σ1):DoOp P o.op tm' σ nm r σ1:=by
 revert h hd
 generalize o.op=op
 intro h hd
 by_cases hc:∃ fo args ts,op = .call { callee:=.value fo,args,argTypes:=ts }
 ·obtain ⟨f,args,ts,rfl⟩:=hc
  have e1:ev tm' f=ev tm f:=h f (by simp [Op.operands,Call.operands])
  have e2:args.toList.map (ev tm')=args.toList.map (ev tm):=List.map_congr_left fun x hx=>h x (by simp at hx;simp [Op.operands,Call.operands,hx])
  simp only [DoOp,e1,e2] at hd ⊢;exact hd
 ·rw [Ykk hc] at hd ⊢
  rw [Zy0 _ h];exact hd
end
end Go.Abs
