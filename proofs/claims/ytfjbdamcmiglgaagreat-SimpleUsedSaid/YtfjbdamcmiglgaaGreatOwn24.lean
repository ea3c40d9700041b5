/- Part 24 of my own framework and of the walks of functions: AbsY. -/
import Derived.Test.YtfjbdamcmiglgaaGreatOwn23
set_option linter.unusedVariables false
set_option linter.unusedSectionVars false
set_option linter.unusedSimpArgs false
namespace Go.cV
open Go
theorem Yqk {P:Program} {op:Op} {tm:List ae} {σ:ai} {nm:Nat} {r:ae} {dh:ai} (h:¬ ∃ fo args ts,op = .call { callee:=.value fo,args,argTypes:=ts }):kB P op tm σ nm r dh=(cY P σ nm (ev tm) op=some (r,dh)):=by
 unfold kB
 split
 ·exact absurd ⟨_,_,_,rfl⟩ h
 ·rfl
section
variable {P:Program} {X:Nat→Nat→Prop} {base mb:Nat} {D:List Deferred} {tm:List ae} {σ:ai} {β:Env} {a:Act} {w:World}
theorem SF {st:St} {n:Nat} (h:Rel X base mb D st β a w):Rel X base mb D st β a { w with drawn:=n }:=by
 have hk:∀ M,dg w M { w with drawn:=n } M:=fun M=>⟨fun g o v h1 h2=>⟨h1,h2⟩,fun g es c h1 h2=>⟨h1,h2⟩⟩
 refine ⟨⟨h.s.nC,fun b cf hb=>?_,h.s.inj,h.s.size,h.s.p6,h.s.gl⟩,h.n,fun k eA=>(h.t k eA).mono (hk _) (fun _ _ h=>h),h.d⟩
 obtain ⟨L,q1,q2,q3,q4⟩:=h.s.cf b cf hb
 exact ⟨L,q1,q2,q3,q4.mono (hk _) (fun _ _ h=>h) rfl⟩
theorem kB.step {ops:Array Oper} {i:Nat} {rest:List Nat} {o:Oper} {f:Fp} {r:ae} {dh:ai} (h:Rel X base mb D ⟨tm,σ⟩ β a w) (ho:ops[i]? = some o) (hg:l8 ops tm o=some true)
  (hd:kB P o.op tm (dw f σ) (f.name σ) r dh) (hs:eW f.wr 0 dh (dw f σ)) (wT:∀ c∈f.wr,c ∉ f.hd) (hn : β (f.name σ)=none) (b:Frame) (k:List Item) (cs:List Frame) :
  ∃ eS a1 w1,Rel X base mb D ⟨put tm o.dst r,dD f.wr 0 dh σ⟩ eS a1 w1∧Ext 0 σ β w (dD f.wr 0 dh σ) eS w1∧(∀ c,c≠f.name σ→c < σ.length→eS c = β c) ∧
   Steps P (lone (b.atR a (.inRegion ops (i :: rest) :: k)) cs w) (lone (b.atR a1 (.inRegion ops rest :: k)) cs w1):=by
 have hw:=zI h hg
 have hl : dh.length = σ.length:=by rw [zQ hs,dw,rM]
 have uy:∀ c,c < σ.length→(!f.hd.contains c)=false→dh[c]? = some none:=fun c hc hv=>by
  have fh:c∈f.hd:=by simpa using hv
  rw [KB hs c (by rw [bm];exact fun q=>wT c q fh),dw,vV,bm,hv,aA hc];rfl
 rw [Zyn hs wT]
 by_cases hc:∃ fo args ts,o.op = .call { callee:=.value fo,args,argTypes:=ts }
 ·obtain ⟨fo,args,ts,hop⟩:=hc
  rw [hop] at hd
  obtain ⟨r',σ',β',v,w1,⟨rfl,rfl⟩,g1,g2,g3,g4,f1,Ag,w2,g5,g6⟩:=hd (qO X (fun c=>!f.hd.contains c) σ β) base β w (a.eval fo) (args.map a.eval) h.s.yg ((va h fo).mono (A7 h.s) (fun _ _ h=>h)) (by simp) (fun j hj=>by
   simp only [ao,bA] at hj
   rw [aj,eo,aB hj]
   simp only [List.getD,cd,fX,aB hj,bw,br]
   exact (va h _).mono (A7 h.s) (fun _ _ h=>h)) (b.atR a (.inRegion ops (i :: rest) :: k)) cs (fun d b' s a' k' e=>by simp [Frame.atR] at e)
  rw [dw,rM] at g4
  have hβ:∀ c L,β c=some L→β' c=some L:=fun c L hc=>by
   rw [g3.env c ?_]
   ·exact hc
   ·rw [dw,rM]
    refine jv fun hle=>?_
    rw [h.s.nC c hle] at hc;cases hc
  obtain ⟨e1,e2,e3⟩:=h.s.vS g1 (g3.lower (av _)) hβ (pc hl.symm) uy
  refine ⟨β',_,w1,h.next e1 e2 hβ (g2.mono e3 (fun _ _ h=>h)) o.dst,e2,fun c _ hc=>g3.env c (by rw [dw,rM];exact hc), .head (step_lone_go ?_) (g6.trans ?_)⟩
  ·rw [stepGR_op ho hw,Oper.semAt_eq _ _ _ (fun c e=>by rw [hop] at e;cases e)]
   rw [← g5]
   congr 2
   simp only [execOp,hop,resolve]
  ·have fZ:=Frame.finish_atR b a ops i rest k v
   rw [ho] at fZ
   rw [fZ];exact .refl _ _
 ·have hE:cY P (dw f σ) (f.name σ) (ev tm) o.op=some (r,dh):=by
   unfold kB at hd
   split at hd
   ·rename_i fo args ts hop;exact absurd ⟨_,_,_,hop⟩ hc
   ·exact hd
  obtain ⟨v,w1,eS,eO,g1,g2,g3,g4,g5⟩:=Sq (P:=P) (o:=o) (h.s.yg (vis:=fun c=>!f.hd.contains c)) hn (fun x=>(va h x).mono (A7 h.s) (fun _ _ h=>h)) (fun _=>rfl) hE
  obtain ⟨e1,e2,e3⟩:=h.s.vS g1 g3 g5 (pc hl.symm) uy
  refine ⟨eS,_,w1,h.next e1 e2 g5 (g2.mono e3 (fun _ _ h=>h)) o.dst,e2,fun c dX _=>g4 c dX, .one (step_lone_go ?_)⟩
  rw [stepGR_op ho hw,Oper.semAt_eq _ _ _ (RI hE)]
  have fZ:=Frame.finish_atR b a ops i rest k v
  rw [ho] at fZ
  rcases eO with eO | ⟨eO,rfl⟩
  ·simp only [stepG.apply,if_true,Sem.runT_eq,eO,GStep.bare_after,GStep.bare_go]
   rw [fZ];rfl
  ·simp only [stepG.apply,if_true,Sem.runT_eq,eO,GStep.bare_after,GStep.bare_go]
   rw [fZ];rfl
end
section
variable {P:Program} {lo:Ctx} {Q:cb→St→Prop} {k:List KI} {ops:Array Oper}
def pV (P:Program) (ops:Array Oper) (f:Fp) (o:Oper) (tm:List ae) (σ:ai) (jE:List ae) (σ':ai):Prop :=
 (l8 ops tm o=some false∧jE=put tm o.dst gone∧σ' = σ) ∨
 (l8 ops tm o=some true∧∃ r dh,kB P o.op tm (dw f σ) (f.name σ) r dh∧eW f.wr 0 dh (dw f σ)∧jE=put tm o.dst r∧σ'=dD f.wr 0 dh σ)
theorem pV.len {f:Fp} {o:Oper} {tm jE:List ae} {σ σ':ai} (h:pV P ops f o tm σ jE σ'):jE.length=tm.length∧σ'.length = σ.length:=by
 rcases h with ⟨_,rfl,rfl⟩ | ⟨_,r,dh,_,h2,rfl,rfl⟩
 ·exact ⟨y4 _ _ _,rfl⟩
 ·exact ⟨y4 _ _ _,Hx (by rw [zQ h2,dw,rM])⟩
theorem Hy:∀ (l:List Oper) (fs:List Fp) (tm:List ae) (σ:ai),iq P lo Q k ops l fs tm σ →
  ∃ (TM:Nat→List ae) (SS:Nat→ai),TM 0=tm∧SS 0 = σ∧(∀ i o,l[i]? = some o→pV P ops (fs.getD i .no) o (TM i) (SS i) (TM (i+1)) (SS (i+1)))∧aK P lo Q k .normal ⟨TM l.length,SS l.length⟩
 | [],fs,tm,σ,h=>⟨fun _=>tm,fun _=>σ,rfl,rfl,fun i o hi=>by simp at hi,h⟩
 | o :: l,fs,tm,σ,h=>by
  obtain ⟨g,hg,h0,h1⟩:=h
  have Gh:∀ i,fs.tail.getD i .no=fs.getD (i+1) .no:=fun i=>by cases fs<;>simp
  have hf0:fs.headD .no=fs.getD 0 .no:=by cases fs<;>rfl
  cases g with
  | false =>
   obtain ⟨TM,SS,e1,e2,e3,e4⟩:=Hy l fs.tail _ _ (h0 rfl)
   refine ⟨fun i=>match i with | 0=>tm | i+1=>TM i,fun i=>match i with | 0=>σ | i+1=>SS i,rfl,rfl,fun i o' hi=>?_,e4⟩
   cases i with
   | zero =>
    simp only [fm,aE] at hi
    subst hi
    exact .inl ⟨hg,e1,e2⟩
   | succ i=>have:=e3 i o' (by simpa using hi);rw [Gh] at this;exact this
  | true =>
   obtain ⟨r,dh,q1,q2,q3⟩:=h1 rfl
   obtain ⟨TM,SS,e1,e2,e3,e4⟩:=Hy l fs.tail _ _ q3
   refine ⟨fun i=>match i with | 0=>tm | i+1=>TM i,fun i=>match i with | 0=>σ | i+1=>SS i,rfl,rfl,fun i o' hi=>?_,e4⟩
   cases i with
   | zero =>
    simp only [fm,aE] at hi
    subst hi
    rw [hf0] at q1 q2 e2
    exact .inr ⟨hg,r,dh,q1,q2,e1,e2⟩
   | succ i=>have:=e3 i o' (by simpa using hi);rw [Gh] at this;exact this
theorem Te {o:Oper} {tm jE:List ae} (hl:jE.length=tm.length) (h:∀ t∈o.looksAt ops,jE.getD t .undef=tm.getD t .undef):l8 ops jE o=l8 ops tm o:=by
 unfold l8
 cases hg:o.guard with
 | none=>rfl
 | some p =>
  obtain ⟨j,want⟩:=p
  simp only
  cases hd:(ops[j]?).bind (·.dst) with
  | none=>rfl
  | some d =>
   have fh:d∈o.looksAt ops:=by simp [Oper.looksAt,hg,hd]
   have:=h d fh
   have e:jE[d]? = tm[d]?:=by
    by_cases bD:d<tm.length
    ·have aZ:d<jE.length:=by rw [hl];exact bD
     rw [aA bD,aA aZ]
     simp only [List.getD,aA bD,aA aZ,br] at this
     rw [this]
    ·have aZ:¬ d<jE.length:=by rw [hl];exact bD
     rw [bq (dP bD),bq (dP aZ)]
   simp only [e]
theorem Ik {o:Oper} {tm jE:List ae} (h:∀ t∈o.looksAt ops,jE.getD t .undef=tm.getD t .undef):∀ x∈o.op.operands,ev jE x=ev tm x:=by
 intro x hx
 cases x with
 | tmp t=>exact h t (by simp only [Oper.looksAt,aX,List.mem_filterMap];exact .inl ⟨.tmp t,by simpa using hx,rfl⟩)
 | _=>rfl
theorem kB.congr {o:Oper} {tm jE:List ae} {σ:ai} {nm:Nat} {r:ae} {dh:ai} (h:∀ x∈o.op.operands,ev jE x=ev tm x) (hd:kB P o.op tm σ nm r dh):kB P o.op jE σ nm r dh:=by
 revert h hd
 generalize o.op=op
 intro h hd
 by_cases hc:∃ fo args ts,op = .call { callee:=.value fo,args,argTypes:=ts }
 ·obtain ⟨f,args,ts,rfl⟩:=hc
  have e1:ev jE f=ev tm f:=h f (by simp [Op.operands,Call.operands])
  have e2:args.toList.map (ev jE)=args.toList.map (ev tm):=mn fun x hx=>h x (by simp at hx;simp [Op.operands,Call.operands,hx])
  simp only [kB,e1,e2] at hd ⊢;exact hd
 ·rw [Yqk hc] at hd ⊢
  rw [YZ _ h];exact hd
end
end Go.cV
