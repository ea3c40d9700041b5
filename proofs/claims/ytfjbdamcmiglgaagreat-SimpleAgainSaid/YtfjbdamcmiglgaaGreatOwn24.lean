/- Part 24 of my own framework and of the walks of functions: AbsY. -/
import Derived.Test.YtfjbdamcmiglgaaGreatOwn23
set_option linter.unusedVariables false
set_option linter.unusedSectionVars false
set_option linter.unusedSimpArgs false
namespace Go.c8
open Go
theorem Yqs {P:Program} {op:Op} {tm:List ae} {σ:ai} {nm:Nat} {r:ae} {dk:ai} (h:¬ ∃ fo args ts,op = .call { callee:=.value fo,args,argTypes:=ts }):kR P op tm σ nm r dk=(c9 P σ nm (ev tm) op=some (r,dk)):=by
 unfold kR
 split
 ·exact absurd ⟨_,_,_,rfl⟩ h
 ·rfl
section
variable {P:Program} {X:Nat→Nat→Prop} {base mb:Nat} {D:List Deferred} {tm:List ae} {σ:ai} {β:Env} {a:Act} {w:World}
theorem Tw {st:St} {n:Nat} (h:Rel X base mb D st β a w):Rel X base mb D st β a { w with drawn:=n }:=by
 have hk:∀ M,di w M { w with drawn:=n } M:=fun M=>⟨fun g o v h1 h2=>⟨h1,h2⟩,fun g es c h1 h2=>⟨h1,h2⟩⟩
 refine ⟨⟨h.s.nO,fun b cg hb=>?_,h.s.inj,h.s.size,h.s.qd,h.s.gl⟩,h.n,fun k eE=>(h.t k eE).mono (hk _) (fun _ _ h=>h),h.d⟩
 obtain ⟨L,q1,q2,q3,q4⟩:=h.s.cg b cg hb
 exact ⟨L,q1,q2,q3,q4.mono (hk _) (fun _ _ h=>h) rfl⟩
theorem kR.step {ops:Array Oper} {i:Nat} {rest:List Nat} {o:Oper} {f:Fp} {r:ae} {dk:ai} (h:Rel X base mb D ⟨tm,σ⟩ β a w) (ho:ops[i]? = some o) (hg:my ops tm o=some true)
  (hd:kR P o.op tm (dy f σ) (f.name σ) r dk) (hs:e7 f.wr 0 dk (dy f σ)) (w8:∀ c∈f.wr,c ∉ f.hd) (hn : β (f.name σ)=none) (b:Frame) (k:List Item) (cs:List Frame) :
  ∃ eX a1 w1,Rel X base mb D ⟨put tm o.dst r,dG f.wr 0 dk σ⟩ eX a1 w1∧Ext 0 σ β w (dG f.wr 0 dk σ) eX w1∧(∀ c,c≠f.name σ→c < σ.length→eX c = β c) ∧
   Steps P (lone (b.atR a (.inRegion ops (i :: rest) :: k)) cs w) (lone (b.atR a1 (.inRegion ops rest :: k)) cs w1):=by
 have hw:=zU h hg
 have hl : dk.length = σ.length:=by rw [zZ hs,dy,rV]
 have uF:∀ c,c < σ.length→(!f.hd.contains c)=false→dk[c]? = some none:=fun c hc hv=>by
  have fE:c∈f.hd:=by simpa using hv
  rw [KY hs c (by rw [bp];exact fun q=>w8 c q fE),dy,wj,bp,hv,aA hc];rfl
 rw [YU hs w8]
 by_cases hc:∃ fo args ts,o.op = .call { callee:=.value fo,args,argTypes:=ts }
 ·obtain ⟨fo,args,ts,hop⟩:=hc
  rw [hop] at hd
  obtain ⟨r',σ',β',v,w1,⟨rfl,rfl⟩,g1,g2,g3,g4,f1,Ax,w2,g5,g6⟩:=hd (qX X (fun c=>!f.hd.contains c) σ β) base β w (a.eval fo) (args.map a.eval) h.s.yt ((vn h fo).mono (Bj h.s) (fun _ _ h=>h)) (by simp) (fun j hj=>by
   simp only [ak,bB] at hj
   rw [aj,ez,aD hj]
   simp only [List.getD,cf,gy,aD hj,bu,br]
   exact (vn h _).mono (Bj h.s) (fun _ _ h=>h)) (b.atR a (.inRegion ops (i :: rest) :: k)) cs (fun d b' s a' k' e=>by simp [Frame.atR] at e)
  rw [dy,rV] at g4
  have hβ:∀ c L,β c=some L→β' c=some L:=fun c L hc=>by
   rw [g3.env c ?_]
   ·exact hc
   ·rw [dy,rV]
    refine jJ fun hle=>?_
    rw [h.s.nO c hle] at hc;cases hc
  obtain ⟨e1,e2,e3⟩:=h.s.wb g1 (g3.lower (av _)) hβ (pC hl.symm) uF
  refine ⟨β',_,w1,h.next e1 e2 hβ (g2.mono e3 (fun _ _ h=>h)) o.dst,e2,fun c _ hc=>g3.env c (by rw [dy,rV];exact hc), .head (step_lone_go ?_) (g6.trans ?_)⟩
  ·rw [stepGR_op ho hw,Oper.semAt_eq _ _ _ (fun c e=>by rw [hop] at e;cases e)]
   rw [← g5]
   congr 2
   simp only [execOp,hop,resolve]
  ·have gB:=Frame.finish_atR b a ops i rest k v
   rw [ho] at gB
   rw [gB];exact .refl _ _
 ·have hE:c9 P (dy f σ) (f.name σ) (ev tm) o.op=some (r,dk):=by
   unfold kR at hd
   split at hd
   ·rename_i fo args ts hop;exact absurd ⟨_,_,_,hop⟩ hc
   ·exact hd
  obtain ⟨v,w1,eX,eS,g1,g2,g3,g4,g5⟩:=SQ (P:=P) (o:=o) (h.s.yt (vis:=fun c=>!f.hd.contains c)) hn (fun x=>(vn h x).mono (Bj h.s) (fun _ _ h=>h)) (fun _=>rfl) hE
  obtain ⟨e1,e2,e3⟩:=h.s.wb g1 g3 g5 (pC hl.symm) uF
  refine ⟨eX,_,w1,h.next e1 e2 g5 (g2.mono e3 (fun _ _ h=>h)) o.dst,e2,fun c ep _=>g4 c ep, .one (step_lone_go ?_)⟩
  rw [stepGR_op ho hw,Oper.semAt_eq _ _ _ (SI hE)]
  have gB:=Frame.finish_atR b a ops i rest k v
  rw [ho] at gB
  rcases eS with eS | ⟨eS,rfl⟩
  ·simp only [stepG.apply,if_true,Sem.runT_eq,eS,GStep.bare_after,GStep.bare_go]
   rw [gB];rfl
  ·simp only [stepG.apply,if_true,Sem.runT_eq,eS,GStep.bare_after,GStep.bare_go]
   rw [gB];rfl
end
section
variable {P:Program} {lo:Ctx} {Q:cb→St→Prop} {k:List KI} {ops:Array Oper}
def p5 (P:Program) (ops:Array Oper) (f:Fp) (o:Oper) (tm:List ae) (σ:ai) (jR:List ae) (σ':ai):Prop :=
 (my ops tm o=some false∧jR=put tm o.dst gone∧σ' = σ) ∨
 (my ops tm o=some true∧∃ r dk,kR P o.op tm (dy f σ) (f.name σ) r dk∧e7 f.wr 0 dk (dy f σ)∧jR=put tm o.dst r∧σ'=dG f.wr 0 dk σ)
theorem p5.len {f:Fp} {o:Oper} {tm jR:List ae} {σ σ':ai} (h:p5 P ops f o tm σ jR σ'):jR.length=tm.length∧σ'.length = σ.length:=by
 rcases h with ⟨_,rfl,rfl⟩ | ⟨_,r,dk,_,h2,rfl,rfl⟩
 ·exact ⟨zf _ _ _,rfl⟩
 ·exact ⟨zf _ _ _,H2 (by rw [zZ h2,dy,rV])⟩
theorem H6:∀ (l:List Oper) (fs:List Fp) (tm:List ae) (σ:ai),iD P lo Q k ops l fs tm σ →
  ∃ (TM:Nat→List ae) (SS:Nat→ai),TM 0=tm∧SS 0 = σ∧(∀ i o,l[i]? = some o→p5 P ops (fs.getD i .no) o (TM i) (SS i) (TM (i+1)) (SS (i+1)))∧aK P lo Q k .normal ⟨TM l.length,SS l.length⟩
 | [],fs,tm,σ,h=>⟨fun _=>tm,fun _=>σ,rfl,rfl,fun i o hi=>by simp at hi,h⟩
 | o :: l,fs,tm,σ,h=>by
  obtain ⟨g,hg,h0,h1⟩:=h
  have GI:∀ i,fs.tail.getD i .no=fs.getD (i+1) .no:=fun i=>by cases fs<;>simp
  have hf0:fs.headD .no=fs.getD 0 .no:=by cases fs<;>rfl
  cases g with
  | false =>
   obtain ⟨TM,SS,e1,e2,e3,e4⟩:=H6 l fs.tail _ _ (h0 rfl)
   refine ⟨fun i=>match i with | 0=>tm | i+1=>TM i,fun i=>match i with | 0=>σ | i+1=>SS i,rfl,rfl,fun i o' hi=>?_,e4⟩
   cases i with
   | zero =>
    simp only [fG,aG] at hi
    subst hi
    exact .inl ⟨hg,e1,e2⟩
   | succ i=>have:=e3 i o' (by simpa using hi);rw [GI] at this;exact this
  | true =>
   obtain ⟨r,dk,q1,q2,q3⟩:=h1 rfl
   obtain ⟨TM,SS,e1,e2,e3,e4⟩:=H6 l fs.tail _ _ q3
   refine ⟨fun i=>match i with | 0=>tm | i+1=>TM i,fun i=>match i with | 0=>σ | i+1=>SS i,rfl,rfl,fun i o' hi=>?_,e4⟩
   cases i with
   | zero =>
    simp only [fG,aG] at hi
    subst hi
    rw [hf0] at q1 q2 e2
    exact .inr ⟨hg,r,dk,q1,q2,e1,e2⟩
   | succ i=>have:=e3 i o' (by simpa using hi);rw [GI] at this;exact this
theorem Ti {o:Oper} {tm jR:List ae} (hl:jR.length=tm.length) (h:∀ t∈o.looksAt ops,jR.getD t .undef=tm.getD t .undef):my ops jR o=my ops tm o:=by
 unfold my
 cases hg:o.guard with
 | none=>rfl
 | some p =>
  obtain ⟨j,want⟩:=p
  simp only
  cases hd:(ops[j]?).bind (·.dst) with
  | none=>rfl
  | some d =>
   have fE:d∈o.looksAt ops:=by simp [Oper.looksAt,hg,hd]
   have:=h d fE
   have e:jR[d]? = tm[d]?:=by
    by_cases bG:d<tm.length
    ·have aZ:d<jR.length:=by rw [hl];exact bG
     rw [aA bG,aA aZ]
     simp only [List.getD,aA bG,aA aZ,br] at this
     rw [this]
    ·have aZ:¬ d<jR.length:=by rw [hl];exact bG
     rw [bt (dS bG),bt (dS aZ)]
   simp only [e]
theorem Iy {o:Oper} {tm jR:List ae} (h:∀ t∈o.looksAt ops,jR.getD t .undef=tm.getD t .undef):∀ x∈o.op.operands,ev jR x=ev tm x:=by
 intro x hx
 cases x with
 | tmp t=>exact h t (by simp only [Oper.looksAt,aW,List.mem_filterMap];exact .inl ⟨.tmp t,by simpa using hx,rfl⟩)
 | _=>rfl
theorem kR.congr {o:Oper} {tm jR:List ae} {σ:ai} {nm:Nat} {r:ae} {dk:ai} (h:∀ x∈o.op.operands,ev jR x=ev tm x) (hd:kR P o.op tm σ nm r dk):kR P o.op jR σ nm r dk:=by
 revert h hd
 generalize o.op=op
 intro h hd
 by_cases hc:∃ fo args ts,op = .call { callee:=.value fo,args,argTypes:=ts }
 ·obtain ⟨f,args,ts,rfl⟩:=hc
  have e1:ev jR f=ev tm f:=h f (by simp [Op.operands,Call.operands])
  have e2:args.toList.map (ev jR)=args.toList.map (ev tm):=jT fun x hx=>h x (by simp at hx;simp [Op.operands,Call.operands,hx])
  simp only [kR,e1,e2] at hd ⊢;exact hd
 ·rw [Yqs hc] at hd ⊢
  rw [Yh7 _ h];exact hd
end
end Go.c8
