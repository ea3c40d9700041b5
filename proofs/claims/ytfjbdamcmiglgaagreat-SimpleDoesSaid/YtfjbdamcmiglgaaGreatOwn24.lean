/- Part 24 of what the claim rests on. -/
import Derived.Test.YtfjbdamcmiglgaaGreatOwn23
set_option linter.all false
namespace Go.dq
open Go
theorem Yuw {P:Program}{op:Op}{tm:List ah}{σ:av}{nm:Nat}{r:ah}{σ1:av}(h:¬ ∃fo args ts,op=.call { callee:=.value fo,args,argTypes:=ts }):l7 P op tm σ nm r σ1=(dJ P σ nm (ev tm) op=some (r,σ1)):=by
 unfold l7;split
 ·exact absurd ⟨_,_,_,rfl⟩ h
 ·rfl
section
variable {P:Program}{X:Nat->Nat->Prop}{base mb:Nat}{D:List Deferred}{tm:List ah}{σ:av}{β:Env}{a:Act}{w:World}
theorem OE {st:St}{n:Nat}(h:Rel X base mb D st β a w):Rel X base mb D st β a { w with drawn:=n }:=by
 have hk:∀M,dK w M { w with drawn:=n } M:=λM=>⟨λg o v h1 h2=>⟨h1,h2⟩,λg es c h1 h2=>⟨h1,h2⟩⟩;refine⟨⟨h.s.o_,λb cG hb=>?_,h.s.inj,h.s.size,h.s.sc,h.s.gl⟩,h.n,λk eZ=>(h.t k eZ).mono (hk _) (λ_ _ h=>h),h.d⟩;obtain⟨L,q1,q2,q3,q4⟩:=h.s.cG b cG hb;exact⟨L,q1,q2,q3,q4.mono (hk _) (λ_ _ h=>h) rfl⟩
theorem l7.step {ops:Array Oper} {i:Nat} {rest:List Nat} {o:Oper} {f:Fp} {r:ah} {σ1:av} (h:Rel X base mb D ⟨tm,σ⟩ β a w) (ho:ops[i]? = some o) (hg:nc ops tm o=some true)
  (hd:l7 P o.op tm (dW f σ) (f.name σ) r σ1) (hs:fG f.wr 0 σ1 (dW f σ)) (za:∀c∈f.wr,c ∉ f.hd) (hn : β (f.name σ)=none) (b:Frame) (k:List Item) (cs:List Frame) :
  ∃fI a1 w1,Rel X base mb D ⟨put tm o.dst r,ew f.wr 0 σ1 σ⟩ fI a1 w1/\Ext 0 σ β w (ew f.wr 0 σ1 σ) fI w1/\(∀c,c≠f.name σ->c < σ.length->fI c = β c) /\
   Steps P (lone (b.atR a (.inRegion ops (i :: rest):: k)) cs w) (lone (b.atR a1 (.inRegion ops rest :: k)) cs w1):=by
 have hw:=Cp h hg;have hl : σ1.length = σ.length:=by rw[BK hs,dW,uj]
 have w5:∀c,c < σ.length->(!f.hd.contains c)=false->σ1[c]? = some none:=λc hc hv=>by
  have fA:c∈f.hd:=by simpa using hv
  rw[OM hs c (by rw[br];exact λq=>za c q fA),dW,ym,br,hv,ax hc];rfl
 rw[Ybn hs za];by_cases hc:∃fo args ts,o.op=.call { callee:=.value fo,args,argTypes:=ts }
 ·obtain ⟨fo,args,ts,hop⟩:=hc;rw[hop]at hd;obtain⟨r',σ',β',v,w1,⟨rfl,rfl⟩,g1,g2,g3,g4,f1,CV,w2,g5,g6⟩:=hd (rC X (λc=>!f.hd.contains c) σ β) base β w (a.eval fo) (args.map a.eval) h.s.AU ((xw h fo).mono (DJ h.s) (λ_ _ h=>h)) (by simp) (λj hj=>by
   simp only[ao,bR]at hj;rw[au,fg,aE hj];simp only[List.getD,cE,fQ,aE hj,bD,bd];exact(xw h _).mono (DJ h.s) (λ_ _ h=>h)) (b.atR a (.inRegion ops (i :: rest):: k)) cs (λd b' s a' k' e=>by simp[Frame.atR]at e)
  rw[dW,uj]at g4;have hβ:∀c L,β c=some L->β' c=some L:=λc L hc=>by
   rw[g3.env c ?_]
   ·exact hc
   ·rw[dW,uj];refine kq λhle=>?_;rw[h.s.o_ c hle]at hc;cases hc
  obtain⟨e1,e2,e3⟩:=h.s.yg g1 (g3.lower (aj _)) hβ (qW hl.symm) w5;refine⟨β',_,w1,h.next e1 e2 hβ (g2.mono e3 (λ_ _ h=>h)) o.dst,e2,λc _ hc=>g3.env c (by rw[dW,uj];exact hc),.head (step_lone_go ?_) (g6.trans ?_)⟩
  ·rw[stepGR_op ho hw,Oper.semAt_eq _ _ _ (λc e=>by rw[hop]at e;cases e)];rw[<-g5];congr 2;simp only[execOp,hop,resolve]
  ·have gW:=Frame.finish_atR b a ops i rest k v;rw[ho]at gW;rw[gW];exact .refl _ _
 ·have hE:dJ P (dW f σ) (f.name σ) (ev tm) o.op=some (r,σ1):=by
   unfold l7 at hd;split at hd
   ·rename_i fo args ts hop;exact absurd ⟨_,_,_,hop⟩ hc
   ·exact hd
  obtain⟨v,w1,fI,fE,g1,g2,g3,g4,g5⟩:=W4 (P:=P) (o:=o) (h.s.AU (vis:=λc=>!f.hd.contains c)) hn (λx=>(xw h x).mono (DJ h.s) (λ_ _ h=>h)) (λ_=>rfl) hE;obtain⟨e1,e2,e3⟩:=h.s.yg g1 g3 g5 (qW hl.symm) w5;refine⟨fI,_,w1,h.next e1 e2 g5 (g2.mono e3 (λ_ _ h=>h)) o.dst,e2,λc dL _=>g4 c dL,.one (step_lone_go ?_)⟩;rw[stepGR_op ho hw,Oper.semAt_eq _ _ _ (XT hE)];have gW:=Frame.finish_atR b a ops i rest k v;rw[ho]at gW;rcases fE with fE|⟨fE,rfl⟩
  ·simp only[stepG.apply,if_true,Sem.runT_eq,fE,GStep.bare_after,GStep.bare_go];rw[gW];rfl
  ·simp only[stepG.apply,if_true,Sem.runT_eq,fE,GStep.bare_after,GStep.bare_go];rw[gW];rfl
end
section
variable {P:Program}{lo:Ctx}{Q:cB->St->Prop}{k:List KI}{ops:Array Oper}
def pB (P:Program)(ops:Array Oper)(f:Fp)(o:Oper)(tm:List ah)(σ:av)(kC:List ah)(σ':av):Prop :=
 (nc ops tm o=some false/\kC=put tm o.dst gone/\σ' = σ) \/
 (nc ops tm o=some true/\∃r σ1,l7 P o.op tm (dW f σ) (f.name σ) r σ1/\fG f.wr 0 σ1 (dW f σ)/\kC=put tm o.dst r/\σ'=ew f.wr 0 σ1 σ)
theorem pB.len {f:Fp}{o:Oper}{tm kC:List ah}{σ σ':av}(h:pB P ops f o tm σ kC σ'):kC.length=tm.length/\σ'.length = σ.length:=by
 rcases h with⟨_,rfl,rfl⟩|⟨_,r,σ1,_,h2,rfl,rfl⟩
 ·exact⟨BH _ _ _,rfl⟩
 ·exact⟨BH _ _ _,KO (by rw[BK h2,dW,uj])⟩
theorem Gy:∀(l:List Oper) (fs:List Fp) (tm:List ah) (σ:av),iw P lo Q k ops l fs tm σ ->
  ∃(TM:Nat->List ah) (SS:Nat->av),TM 0=tm/\SS 0 = σ/\(∀i o,l[i]? = some o->pB P ops (fs.getD i .no) o (TM i) (SS i) (TM (i+1)) (SS (i+1)))/\aC P lo Q k .normal ⟨TM l.length,SS l.length⟩
 |[],fs,tm,σ,h=>⟨λ_=>tm,λ_=>σ,rfl,rfl,λi o hi=>by simp at hi,h⟩
 | o :: l,fs,tm,σ,h=>by
  obtain⟨g,hg,h0,h1⟩:=h;have C8:∀i,fs.tail.getD i .no=fs.getD (i+1) .no:=λi=>by cases fs<;>simp
  have hf0:fs.headD .no=fs.getD 0 .no:=by cases fs<;>rfl
  cases g with
  | false =>
   obtain⟨TM,SS,e1,e2,e3,e4⟩:=Gy l fs.tail _ _ (h0 rfl);refine⟨λi=>match i with|0=>tm|i+1=>TM i,λi=>match i with|0=>σ|i+1=>SS i,rfl,rfl,λi o' hi=>?_,e4⟩
   cases i with
   |zero =>
    simp only[gB,aM]at hi;subst hi;exact .inl ⟨hg,e1,e2⟩
   |succ i=>have:=e3 i o' (by simpa using hi);rw[C8]at this;exact this
  | true =>
   obtain⟨r,σ1,q1,q2,q3⟩:=h1 rfl;obtain⟨TM,SS,e1,e2,e3,e4⟩:=Gy l fs.tail _ _ q3;refine⟨λi=>match i with|0=>tm|i+1=>TM i,λi=>match i with|0=>σ|i+1=>SS i,rfl,rfl,λi o' hi=>?_,e4⟩
   cases i with
   |zero =>
    simp only[gB,aM]at hi;subst hi;rw[hf0]at q1 q2 e2;exact .inr ⟨hg,r,σ1,q1,q2,e1,e2⟩
   |succ i=>have:=e3 i o' (by simpa using hi);rw[C8]at this;exact this
theorem X1 {o:Oper} {tm kC:List ah} (hl:kC.length=tm.length) (h:∀t∈o.looksAt ops,kC.getD t .undef=tm.getD t .undef):nc ops kC o=nc ops tm o:=by
 unfold nc;cases hg:o.guard with
 |none=>rfl
 | some p =>
  obtain⟨j,want⟩:=p;simp only
  cases hd:(ops[j]?).bind (·.dst) with
  |none=>rfl
  | some d =>
   have fA:d∈o.looksAt ops:=by simp[Oper.looksAt,hg,hd]
   have:=h d fA;have e:kC[d]? = tm[d]?:=by
    by_cases bx:d<tm.length
    ·have aL:d<kC.length:=by rw[hl];exact bx
     rw[ax bx,ax aL];simp only[List.getD,ax bx,ax aL,bd]at this;rw[this]
    ·have aL:¬d<kC.length:=by rw[hl];exact bx
     rw[bB (en bx),bB (en aL)]
   simp only[e]
theorem Lo {o:Oper}{tm kC:List ah}(h:∀t∈o.looksAt ops,kC.getD t .undef=tm.getD t .undef):∀x∈o.op.operands,ev kC x=ev tm x:=by
 intro x hx;cases x with
 |tmp t=>exact h t (by simp only[Oper.looksAt,a_,List.mem_filterMap];exact .inl ⟨.tmp t,by simpa using hx,rfl⟩)
 |_=>rfl
theorem l7.congr {o:Oper}{tm kC:List ah}{σ:av}{nm:Nat}{r:ah}{σ1:av}(h:∀x∈o.op.operands,ev kC x=ev tm x)(hd:l7 P o.op tm σ nm r σ1):l7 P o.op kC σ nm r σ1:=by
 revert h hd;generalize o.op=op;intro h hd;by_cases hc:∃fo args ts,op=.call { callee:=.value fo,args,argTypes:=ts }
 ·obtain⟨f,args,ts,rfl⟩:=hc;have e1:ev kC f=ev tm f:=h f (by simp[Op.operands,Call.operands]);have e2:args.toList.map (ev kC)=args.toList.map (ev tm):=jf λx hx=>h x (by simp at hx;simp[Op.operands,Call.operands,hx]);simp only[l7,e1,e2]at hd ⊢;exact hd
 ·rw[Yuw hc]at hd ⊢;rw[Yg4 _ h];exact hd
end
end Go.dq
