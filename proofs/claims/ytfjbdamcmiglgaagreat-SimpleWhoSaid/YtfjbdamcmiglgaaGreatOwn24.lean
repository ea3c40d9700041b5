/- Part 24 of my own framework and of the walks of functions: AbsY. -/
import Derived.Test.YtfjbdamcmiglgaaGreatOwn23
set_option linter.unusedVariables false
set_option linter.unusedSectionVars false
set_option linter.unusedSimpArgs false
namespace Go.c8
open Go
theorem Ys0 {P:Program} {op:Op} {tm:List ae} {σ:ai} {nm:Nat} {r:ae} {dg:ai} (h:¬ ∃ fo args ts,op = .call { callee:=.value fo,args,argTypes:=ts }):kE P op tm σ nm r dg=(cY P σ nm (ev tm) op=some (r,dg)):=by
 unfold kE
 split
 ·exact absurd ⟨_,_,_,rfl⟩ h
 ·rfl
section
variable {P:Program} {X:Nat→Nat→Prop} {base mb:Nat} {D:List Deferred} {tm:List ae} {σ:ai} {β:Env} {a:Act} {w:World}
theorem Ry {st:St} {n:Nat} (h:Rel X base mb D st β a w):Rel X base mb D st β a { w with drawn:=n }:=by
 have hk:∀ M,df w M { w with drawn:=n } M:=fun M=>⟨fun g o v h1 h2=>⟨h1,h2⟩,fun g es c h1 h2=>⟨h1,h2⟩⟩
 refine ⟨⟨h.s.nA,fun b cd hb=>?_,h.s.inj,h.s.size,h.s.pW,h.s.gl⟩,h.n,fun k er=>(h.t k er).mono (hk _) (fun _ _ h=>h),h.d⟩
 obtain ⟨L,q1,q2,q3,q4⟩:=h.s.cd b cd hb
 exact ⟨L,q1,q2,q3,q4.mono (hk _) (fun _ _ h=>h) rfl⟩
theorem kE.step {ops:Array Oper} {i:Nat} {rest:List Nat} {o:Oper} {f:Fp} {r:ae} {dg:ai} (h:Rel X base mb D ⟨tm,σ⟩ β a w) (ho:ops[i]? = some o) (hg:mc ops tm o=some true)
  (hd:kE P o.op tm (dv f σ) (f.name σ) r dg) (hs:eT f.wr 0 dg (dv f σ)) (wM:∀ c∈f.wr,c ∉ f.hd) (hn : β (f.name σ)=none) (b:Frame) (k:List Item) (cs:List Frame) :
  ∃ eO a1 w1,Rel X base mb D ⟨put tm o.dst r,dB f.wr 0 dg σ⟩ eO a1 w1∧Ext 0 σ β w (dB f.wr 0 dg σ) eO w1∧(∀ c,c≠f.name σ→c < σ.length→eO c = β c) ∧
   Steps P (lone (b.atR a (.inRegion ops (i :: rest) :: k)) cs w) (lone (b.atR a1 (.inRegion ops rest :: k)) cs w1):=by
 have hw:=zB h hg
 have hl : dg.length = σ.length:=by rw [zI hs,dv,rA]
 have uf:∀ c,c < σ.length→(!f.hd.contains c)=false→dg[c]? = some none:=fun c hc hv=>by
  have fp:c∈f.hd:=by simpa using hv
  rw [Ku hs c (by rw [bm];exact fun q=>wM c q fp),dv,vO,bm,hv,aA hc];rfl
 rw [Wj hs wM]
 by_cases hc:∃ fo args ts,o.op = .call { callee:=.value fo,args,argTypes:=ts }
 ·obtain ⟨fo,args,ts,hop⟩:=hc
  rw [hop] at hd
  obtain ⟨r',σ',β',v,w1,⟨rfl,rfl⟩,g1,g2,g3,g4,f1,Aa,w2,g5,g6⟩:=hd (qF X (fun c=>!f.hd.contains c) σ β) base β w (a.eval fo) (args.map a.eval) h.s.ya ((uP h fo).mono (A1 h.s) (fun _ _ h=>h)) (by simp) (fun j hj=>by
   simp only [ak,bA] at hj
   rw [aj,ei,aB hj]
   simp only [List.getD,cb,fX,aB hj,bu,br]
   exact (uP h _).mono (A1 h.s) (fun _ _ h=>h)) (b.atR a (.inRegion ops (i :: rest) :: k)) cs (fun d b' s a' k' e=>by simp [Frame.atR] at e)
  rw [dv,rA] at g4
  have hβ:∀ c L,β c=some L→β' c=some L:=fun c L hc=>by
   rw [g3.env c ?_]
   ·exact hc
   ·rw [dv,rA]
    refine ju fun hle=>?_
    rw [h.s.nA c hle] at hc;cases hc
  obtain ⟨e1,e2,e3⟩:=h.s.vL g1 (g3.lower (av _)) hβ (pa hl.symm) uf
  refine ⟨β',_,w1,h.next e1 e2 hβ (g2.mono e3 (fun _ _ h=>h)) o.dst,e2,fun c _ hc=>g3.env c (by rw [dv,rA];exact hc), .head (step_lone_go ?_) (g6.trans ?_)⟩
  ·rw [stepGR_op ho hw,Oper.semAt_eq _ _ _ (fun c e=>by rw [hop] at e;cases e)]
   rw [← g5]
   congr 2
   simp only [execOp,hop,resolve]
  ·have fZ:=Frame.finish_atR b a ops i rest k v
   rw [ho] at fZ
   rw [fZ];exact .refl _ _
 ·have hE:cY P (dv f σ) (f.name σ) (ev tm) o.op=some (r,dg):=by
   unfold kE at hd
   split at hd
   ·rename_i fo args ts hop;exact absurd ⟨_,_,_,hop⟩ hc
   ·exact hd
  obtain ⟨v,w1,eO,eL,g1,g2,g3,g4,g5⟩:=Se (P:=P) (o:=o) (h.s.ya (vis:=fun c=>!f.hd.contains c)) hn (fun x=>(uP h x).mono (A1 h.s) (fun _ _ h=>h)) (fun _=>rfl) hE
  obtain ⟨e1,e2,e3⟩:=h.s.vL g1 g3 g5 (pa hl.symm) uf
  refine ⟨eO,_,w1,h.next e1 e2 g5 (g2.mono e3 (fun _ _ h=>h)) o.dst,e2,fun c eg _=>g4 c eg, .one (step_lone_go ?_)⟩
  rw [stepGR_op ho hw,Oper.semAt_eq _ _ _ (Sq hE)]
  have fZ:=Frame.finish_atR b a ops i rest k v
  rw [ho] at fZ
  rcases eL with eL | ⟨eL,rfl⟩
  ·simp only [stepG.apply,if_true,Sem.runT_eq,eL,GStep.bare_after,GStep.bare_go]
   rw [fZ];rfl
  ·simp only [stepG.apply,if_true,Sem.runT_eq,eL,GStep.bare_after,GStep.bare_go]
   rw [fZ];rfl
end
section
variable {P:Program} {lo:Ctx} {Q:b9→St→Prop} {k:List KI} {ops:Array Oper}
def pN (P:Program) (ops:Array Oper) (f:Fp) (o:Oper) (tm:List ae) (σ:ai) (jE:List ae) (σ':ai):Prop :=
 (mc ops tm o=some false∧jE=put tm o.dst gone∧σ' = σ) ∨
 (mc ops tm o=some true∧∃ r dg,kE P o.op tm (dv f σ) (f.name σ) r dg∧eT f.wr 0 dg (dv f σ)∧jE=put tm o.dst r∧σ'=dB f.wr 0 dg σ)
theorem pN.len {f:Fp} {o:Oper} {tm jE:List ae} {σ σ':ai} (h:pN P ops f o tm σ jE σ'):jE.length=tm.length∧σ'.length = σ.length:=by
 rcases h with ⟨_,rfl,rfl⟩ | ⟨_,r,dg,_,h2,rfl,rfl⟩
 ·exact ⟨yW _ _ _,rfl⟩
 ·exact ⟨yW _ _ _,Hm (by rw [zI h2,dv,rA])⟩
theorem Ht:∀ (l:List Oper) (fs:List Fp) (tm:List ae) (σ:ai),im P lo Q k ops l fs tm σ →
  ∃ (TM:Nat→List ae) (SS:Nat→ai),TM 0=tm∧SS 0 = σ∧(∀ i o,l[i]? = some o→pN P ops (fs.getD i .no) o (TM i) (SS i) (TM (i+1)) (SS (i+1)))∧aK P lo Q k .normal ⟨TM l.length,SS l.length⟩
 | [],fs,tm,σ,h=>⟨fun _=>tm,fun _=>σ,rfl,rfl,fun i o hi=>by simp at hi,h⟩
 | o :: l,fs,tm,σ,h=>by
  obtain ⟨g,hg,h0,h1⟩:=h
  have Gb:∀ i,fs.tail.getD i .no=fs.getD (i+1) .no:=fun i=>by cases fs<;>simp
  have hf0:fs.headD .no=fs.getD 0 .no:=by cases fs<;>rfl
  cases g with
  | false =>
   obtain ⟨TM,SS,e1,e2,e3,e4⟩:=Ht l fs.tail _ _ (h0 rfl)
   refine ⟨fun i=>match i with | 0=>tm | i+1=>TM i,fun i=>match i with | 0=>σ | i+1=>SS i,rfl,rfl,fun i o' hi=>?_,e4⟩
   cases i with
   | zero =>
    simp only [fm,aG] at hi
    subst hi
    exact .inl ⟨hg,e1,e2⟩
   | succ i=>have:=e3 i o' (by simpa using hi);rw [Gb] at this;exact this
  | true =>
   obtain ⟨r,dg,q1,q2,q3⟩:=h1 rfl
   obtain ⟨TM,SS,e1,e2,e3,e4⟩:=Ht l fs.tail _ _ q3
   refine ⟨fun i=>match i with | 0=>tm | i+1=>TM i,fun i=>match i with | 0=>σ | i+1=>SS i,rfl,rfl,fun i o' hi=>?_,e4⟩
   cases i with
   | zero =>
    simp only [fm,aG] at hi
    subst hi
    rw [hf0] at q1 q2 e2
    exact .inr ⟨hg,r,dg,q1,q2,e1,e2⟩
   | succ i=>have:=e3 i o' (by simpa using hi);rw [Gb] at this;exact this
theorem RZ {o:Oper} {tm jE:List ae} (hl:jE.length=tm.length) (h:∀ t∈o.looksAt ops,jE.getD t .undef=tm.getD t .undef):mc ops jE o=mc ops tm o:=by
 unfold mc
 cases hg:o.guard with
 | none=>rfl
 | some p =>
  obtain ⟨j,want⟩:=p
  simp only
  cases hd:(ops[j]?).bind (·.dst) with
  | none=>rfl
  | some d =>
   have fp:d∈o.looksAt ops:=by simp [Oper.looksAt,hg,hd]
   have:=h d fp
   have e:jE[d]? = tm[d]?:=by
    by_cases bD:d<tm.length
    ·have aZ:d<jE.length:=by rw [hl];exact bD
     rw [aA bD,aA aZ]
     simp only [List.getD,aA bD,aA aZ,br] at this
     rw [this]
    ·have aZ:¬ d<jE.length:=by rw [hl];exact bD
     rw [bq (dN bD),bq (dN aZ)]
   simp only [e]
theorem H7 {o:Oper} {tm jE:List ae} (h:∀ t∈o.looksAt ops,jE.getD t .undef=tm.getD t .undef):∀ x∈o.op.operands,ev jE x=ev tm x:=by
 intro x hx
 cases x with
 | tmp t=>exact h t (by simp only [Oper.looksAt,aW,List.mem_filterMap];exact .inl ⟨.tmp t,by simpa using hx,rfl⟩)
 | _=>rfl
theorem kE.congr {o:Oper} {tm jE:List ae} {σ:ai} {nm:Nat} {r:ae} {dg:ai} (h:∀ x∈o.op.operands,ev jE x=ev tm x) (hd:kE P o.op tm σ nm r dg):kE P o.op jE σ nm r dg:=by
 revert h hd
 generalize o.op=op
 intro h hd
 by_cases hc:∃ fo args ts,op = .call { callee:=.value fo,args,argTypes:=ts }
 ·obtain ⟨f,args,ts,rfl⟩:=hc
  have e1:ev jE f=ev tm f:=h f (by simp [Op.operands,Call.operands])
  have e2:args.toList.map (ev jE)=args.toList.map (ev tm):=mq fun x hx=>h x (by simp at hx;simp [Op.operands,Call.operands,hx])
  simp only [kE,e1,e2] at hd ⊢;exact hd
 ·rw [Ys0 hc] at hd ⊢
  rw [X8 _ h];exact hd
end
end Go.c8
