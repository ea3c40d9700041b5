/- Part 24 of my own framework and of the walks of functions: AbsY. -/
import Derived.Test.YtfjbdamcmiglgaaGreatOwn23
set_option linter.unusedVariables false
set_option linter.unusedSectionVars false
set_option linter.unusedSimpArgs false
namespace Go.dm
open Go
theorem Yub {P:Program} {op:Op} {tm:List ah} {σ:ai} {nm:Nat} {r:ah} {dA:ai} (h:¬ ∃ fo args ts,op = .call { callee:=.value fo,args,argTypes:=ts }):ln P op tm σ nm r dA=(dt P σ nm (ev tm) op=some (r,dA)):=by
 unfold ln;split
 ·exact absurd ⟨_,_,_,rfl⟩ h
 ·rfl
section
variable {P:Program} {X:Nat→Nat→Prop} {base mb:Nat} {D:List Deferred} {tm:List ah} {σ:ai} {β:Env} {a:Act} {w:World}
theorem UO {st:St} {n:Nat} (h:Rel X base mb D st β a w):Rel X base mb D st β a { w with drawn:=n }:=by
 have hk:∀ M,dD w M { w with drawn:=n } M:=fun M=>⟨fun g o v h1 h2=>⟨h1,h2⟩,fun g es c h1 h2=>⟨h1,h2⟩⟩;refine ⟨⟨h.s.oo,fun b cw hb=>?_,h.s.inj,h.s.size,h.s.qL,h.s.gl⟩,h.n,fun k e7=>(h.t k e7).mono (hk _) (fun _ _ h=>h),h.d⟩;obtain ⟨L,q1,q2,q3,q4⟩:=h.s.cw b cw hb;exact ⟨L,q1,q2,q3,q4.mono (hk _) (fun _ _ h=>h) rfl⟩
theorem ln.step {ops:Array Oper} {i:Nat} {rest:List Nat} {o:Oper} {f:Fp} {r:ah} {dA:ai} (h:Rel X base mb D ⟨tm,σ⟩ β a w) (ho:ops[i]? = some o) (hg:mN ops tm o=some true)
  (hd:ln P o.op tm (dM f σ) (f.name σ) r dA) (hs:fB f.wr 0 dA (dM f σ)) (xQ:∀ c∈f.wr,c ∉ f.hd) (hn : β (f.name σ)=none) (b:Frame) (k:List Item) (cs:List Frame) :
  ∃ fy a1 w1,Rel X base mb D ⟨put tm o.dst r,dX f.wr 0 dA σ⟩ fy a1 w1∧Ext 0 σ β w (dX f.wr 0 dA σ) fy w1∧(∀ c,c≠f.name σ→c < σ.length→fy c = β c) ∧
   Steps P (lone (b.atR a (.inRegion ops (i :: rest) :: k)) cs w) (lone (b.atR a1 (.inRegion ops rest :: k)) cs w1):=by
 have hw:=A0 h hg;have hl : dA.length = σ.length:=by rw [A4 hs,dM,sZ]
 have vF:∀ c,c < σ.length→(!f.hd.contains c)=false→dA[c]? = some none:=fun c hc hv=>by
  have fD:c∈f.hd:=by simpa using hv
  rw [MC hs c (by rw [bq];exact fun q=>xQ c q fD),dM,w9,bq,hv,av hc];rfl
 rw [Ybk hs xQ];by_cases hc:∃ fo args ts,o.op = .call { callee:=.value fo,args,argTypes:=ts }
 ·obtain ⟨fo,args,ts,hop⟩:=hc;rw [hop] at hd;obtain ⟨r',σ',β',v,w1,⟨rfl,rfl⟩,g1,g2,g3,g4,f1,Bs,w2,g5,g6⟩:=hd (r8 X (fun c=>!f.hd.contains c) σ β) base β w (a.eval fo) (args.map a.eval) h.s.zg ((wq h fo).mono (Cf h.s) (fun _ _ h=>h)) (by simp) (fun j hj=>by
   simp only [aj,bH] at hj;rw [ak,eZ,aE hj];simp only [List.getD,cu,gP,aE hj,bM,bx];exact (wq h _).mono (Cf h.s) (fun _ _ h=>h)) (b.atR a (.inRegion ops (i :: rest) :: k)) cs (fun d b' s a' k' e=>by simp [Frame.atR] at e)
  rw [dM,sZ] at g4;have hβ:∀ c L,β c=some L→β' c=some L:=fun c L hc=>by
   rw [g3.env c ?_]
   ·exact hc
   ·rw [dM,sZ];refine jU fun hle=>?_;rw [h.s.oo c hle] at hc;cases hc
  obtain ⟨e1,e2,e3⟩:=h.s.wZ g1 (g3.lower (au _)) hβ (pY hl.symm) vF;refine ⟨β',_,w1,h.next e1 e2 hβ (g2.mono e3 (fun _ _ h=>h)) o.dst,e2,fun c _ hc=>g3.env c (by rw [dM,sZ];exact hc), .head (step_lone_go ?_) (g6.trans ?_)⟩
  ·rw [stepGR_op ho hw,Oper.semAt_eq _ _ _ (fun c e=>by rw [hop] at e;cases e)];rw [← g5];congr 2;simp only [execOp,hop,resolve]
  ·have gR:=Frame.finish_atR b a ops i rest k v;rw [ho] at gR;rw [gR];exact .refl _ _
 ·have hE:dt P (dM f σ) (f.name σ) (ev tm) o.op=some (r,dA):=by
   unfold ln at hd;split at hd
   ·rename_i fo args ts hop;exact absurd ⟨_,_,_,hop⟩ hc
   ·exact hd
  obtain ⟨v,w1,fy,ft,g1,g2,g3,g4,g5⟩:=UY (P:=P) (o:=o) (h.s.zg (vis:=fun c=>!f.hd.contains c)) hn (fun x=>(wq h x).mono (Cf h.s) (fun _ _ h=>h)) (fun _=>rfl) hE;obtain ⟨e1,e2,e3⟩:=h.s.wZ g1 g3 g5 (pY hl.symm) vF;refine ⟨fy,_,w1,h.next e1 e2 g5 (g2.mono e3 (fun _ _ h=>h)) o.dst,e2,fun c eH _=>g4 c eH, .one (step_lone_go ?_)⟩;rw [stepGR_op ho hw,Oper.semAt_eq _ _ _ (VT hE)];have gR:=Frame.finish_atR b a ops i rest k v;rw [ho] at gR;rcases ft with ft | ⟨ft,rfl⟩
  ·simp only [stepG.apply,if_true,Sem.runT_eq,ft,GStep.bare_after,GStep.bare_go];rw [gR];rfl
  ·simp only [stepG.apply,if_true,Sem.runT_eq,ft,GStep.bare_after,GStep.bare_go];rw [gR];rfl
end
section
variable {P:Program} {lo:Ctx} {Q:ct→St→Prop} {k:List KI} {ops:Array Oper}
def qD (P:Program) (ops:Array Oper) (f:Fp) (o:Oper) (tm:List ah) (σ:ai) (j6:List ah) (σ':ai):Prop :=
 (mN ops tm o=some false∧j6=put tm o.dst gone∧σ' = σ) ∨
 (mN ops tm o=some true∧∃ r dA,ln P o.op tm (dM f σ) (f.name σ) r dA∧fB f.wr 0 dA (dM f σ)∧j6=put tm o.dst r∧σ'=dX f.wr 0 dA σ)
theorem qD.len {f:Fp} {o:Oper} {tm j6:List ah} {σ σ':ai} (h:qD P ops f o tm σ j6 σ'):j6.length=tm.length∧σ'.length = σ.length:=by
 rcases h with ⟨_,rfl,rfl⟩ | ⟨_,r,dA,_,h2,rfl,rfl⟩
 ·exact ⟨z8 _ _ _,rfl⟩
 ·exact ⟨z8 _ _ _,IY (by rw [A4 h2,dM,sZ])⟩
theorem I0:∀ (l:List Oper) (fs:List Fp) (tm:List ah) (σ:ai),iT P lo Q k ops l fs tm σ →
  ∃ (TM:Nat→List ah) (SS:Nat→ai),TM 0=tm∧SS 0 = σ∧(∀ i o,l[i]? = some o→qD P ops (fs.getD i .no) o (TM i) (SS i) (TM (i+1)) (SS (i+1)))∧aG P lo Q k .normal ⟨TM l.length,SS l.length⟩
 | [],fs,tm,σ,h=>⟨fun _=>tm,fun _=>σ,rfl,rfl,fun i o hi=>by simp at hi,h⟩
 | o :: l,fs,tm,σ,h=>by
  obtain ⟨g,hg,h0,h1⟩:=h;have D1:∀ i,fs.tail.getD i .no=fs.getD (i+1) .no:=fun i=>by cases fs<;>simp
  have Ko:fs.headD .no=fs.getD 0 .no:=by cases fs<;>rfl
  cases g with
  | false =>
   obtain ⟨TM,SS,e1,e2,e3,e4⟩:=I0 l fs.tail _ _ (h0 rfl);refine ⟨fun i=>match i with | 0=>tm | i+1=>TM i,fun i=>match i with | 0=>σ | i+1=>SS i,rfl,rfl,fun i o' hi=>?_,e4⟩
   cases i with
   | zero =>
    simp only [fT,aH] at hi;subst hi;exact .inl ⟨hg,e1,e2⟩
   | succ i=>have:=e3 i o' (by simpa using hi);rw [D1] at this;exact this
  | true =>
   obtain ⟨r,dA,q1,q2,q3⟩:=h1 rfl;obtain ⟨TM,SS,e1,e2,e3,e4⟩:=I0 l fs.tail _ _ q3;refine ⟨fun i=>match i with | 0=>tm | i+1=>TM i,fun i=>match i with | 0=>σ | i+1=>SS i,rfl,rfl,fun i o' hi=>?_,e4⟩
   cases i with
   | zero =>
    simp only [fT,aH] at hi;subst hi;rw [Ko] at q1 q2 e2;exact .inr ⟨hg,r,dA,q1,q2,e1,e2⟩
   | succ i=>have:=e3 i o' (by simpa using hi);rw [D1] at this;exact this
theorem Vi {o:Oper} {tm j6:List ah} (hl:j6.length=tm.length) (h:∀ t∈o.looksAt ops,j6.getD t .undef=tm.getD t .undef):mN ops j6 o=mN ops tm o:=by
 unfold mN;cases hg:o.guard with
 | none=>rfl
 | some p =>
  obtain ⟨j,want⟩:=p;simp only
  cases hd:(ops[j]?).bind (·.dst) with
  | none=>rfl
  | some d =>
   have fD:d∈o.looksAt ops:=by simp [Oper.looksAt,hg,hd]
   have:=h d fD;have e:j6[d]? = tm[d]?:=by
    by_cases bA:d<tm.length
    ·have aU:d<j6.length:=by rw [hl];exact bA
     rw [av bA,av aU];simp only [List.getD,av bA,av aU,bx] at this;rw [this]
    ·have aU:¬ d<j6.length:=by rw [hl];exact bA
     rw [bt (eA bA),bt (eA aU)]
   simp only [e]
theorem JL {o:Oper} {tm j6:List ah} (h:∀ t∈o.looksAt ops,j6.getD t .undef=tm.getD t .undef):∀ x∈o.op.operands,ev j6 x=ev tm x:=by
 intro x hx;cases x with
 | tmp t=>exact h t (by simp only [Oper.looksAt,aY,List.mem_filterMap];exact .inl ⟨.tmp t,by simpa using hx,rfl⟩)
 | _=>rfl
theorem ln.congr {o:Oper} {tm j6:List ah} {σ:ai} {nm:Nat} {r:ah} {dA:ai} (h:∀ x∈o.op.operands,ev j6 x=ev tm x) (hd:ln P o.op tm σ nm r dA):ln P o.op j6 σ nm r dA:=by
 revert h hd;generalize o.op=op;intro h hd;by_cases hc:∃ fo args ts,op = .call { callee:=.value fo,args,argTypes:=ts }
 ·obtain ⟨f,args,ts,rfl⟩:=hc;have e1:ev j6 f=ev tm f:=h f (by simp [Op.operands,Call.operands]);have e2:args.toList.map (ev j6)=args.toList.map (ev tm):=mY fun x hx=>h x (by simp at hx;simp [Op.operands,Call.operands,hx]);simp only [ln,e1,e2] at hd ⊢;exact hd
 ·rw [Yub hc] at hd ⊢;rw [Yf3 _ h];exact hd
end
end Go.dm
