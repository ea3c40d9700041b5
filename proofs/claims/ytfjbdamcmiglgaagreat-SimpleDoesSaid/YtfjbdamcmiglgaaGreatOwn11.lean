/- Part 11 of what the claim rests on. -/
import Derived.Test.YtfjbdamcmiglgaaGreatOwn10
set_option linter.all false
abbrev bq:=@List.cons_append
abbrev aU:=@List.mem_cons
abbrev aY:=@List.nil_append
abbrev fM:=@List.nodup_cons
abbrev mc:=@List.nodup_nil
namespace Go.dq
open Go
section
variable {P:Program}{lo:Ctx}{st:St}
theorem Zo8 {X:Nat->Nat->Prop}{base:Nat}{σ:av}{β:Env}{w:World}(hr:c8 X base σ β w){g:Nat}{o:Option (List Deferred)}(hg:w.heap[g]? = some (.deferred o)):∀off,¬jR σ β g off:=by
 rintro off ⟨b,cG,L,h1,h2,rfl,h4⟩;obtain⟨L',xi,_,_,jB⟩:=hr.cG b cG h1;obtain rfl:L=L':=aS (h2.symm.trans xi);cases cG with
 |row es fz=>obtain⟨c,e,h5,_⟩:=jB;rw[hg]at h5;cases h5
 |map ks vs fz=>obtain⟨c,e,h5,_⟩:=jB;rw[hg]at h5;cases h5
 |var cs=>obtain⟨c,e,h5,_⟩:=jB;rw[hg]at h5;cases h5
 |iter s p=>have:w.heap[L.g]? = some (.stringIter s p):=jB;rw[hg]at this;cases this
 |mC ks vs seen=>obtain⟨m,es,c,h5,_⟩:=jB;rw[hg]at h5;cases h5
 |loop r=>obtain⟨t,d,f,h5,_⟩:=jB;rw[hg]at h5;cases h5
theorem Marks.ext {X:Nat->Nat->Prop}{base mb l:Nat}{D:List Deferred}{σ σ':av}{β β':Env}{w w':World}{ds:List Deferred}(h:Marks mb D w ds)(hr:c8 X base σ β w)(he:Ext l σ β w σ' β' w'):Marks mb D w' ds:=by
 obtain⟨rs,h1,h2,h3⟩:=h;refine⟨rs,h1,h2,λr sU=>⟨(h3 r sU).1,?_⟩⟩;have h4:=(h3 r sU).2;exact(he.block r (aQ.1 h4).1 (Zo8 hr h4)).trans h4
theorem BH (tm:List ah)(d:Option Tmp)(v:ah):(put tm d v).length=tm.length:=by cases d<;>simp[put]
theorem Rel.next {X:Nat->Nat->Prop} {base mb l:Nat} {D:List Deferred} {β β':Env} {a:Act} {w w':World} {σ':av} (h:Rel X base mb D st β a w) (hs:c8 X base σ' β' w') (he:Ext l st.σ β w σ' β' w') (hβ:∀b L,β b=some L->β' b=some L)
  {v:Value} {r:ah} (hv:cn w' (MT X σ' β') β' v r) (dst:Option Tmp):Rel X base mb D ⟨put st.tm dst r,σ'⟩ β' (a.put dst v) w':=by
 have hk:=he.keeps h.s;refine⟨hs,?_,λk eZ=>?_,?_⟩
 ·cases dst<;>simp[Act.put,put,h.n]
 ·rw [BH]at eZ;have h0:=(h.t k eZ).mono hk hβ;cases dst with
  |none=>exact h0
  |some d =>
   simp only[Act.put,put];rw[au,bK];by_cases e:d=k
   ·subst e;rw[if_pos rfl,if_pos (by rw[h.n];exact eZ),HN _ _ _ eZ];exact hv
   ·rw[if_neg e,<-au,getD_set_ne _ _ _ _ e];exact h0
 ·have:=h.d.ext h.s he;cases dst<;>exact this
def gone:ah:=.qf undef
def yG:Value->Bool
 |.bool _=>true
 |_=>false
def nc (ops:Array Oper) (tm:List ah) (o:Oper):Option Bool :=
 match o.guard with
 |none=>some true
 | some (j,want)=>match (ops[j]?).bind (·.dst) with
  |some d=>match tm[d]? with
   |some (.bool b)=>some (b==want)
   |some (.qf v)=>if yG v then none else some false
   |_=>none
  |none=>none
theorem Cp {X:Nat->Nat->Prop} {base mb:Nat} {D:List Deferred} {β:Env} {a:Act} {w:World} (h:Rel X base mb D st β a w) {ops:Array Oper} {o:Oper} {b:Bool} (hg:nc ops st.tm o=some b):Region.wanted o (yielded ops a.tmps)=b:=by
 unfold nc at hg;unfold Region.wanted;split at hg
 ·rename_i e;rw[e];simpa using hg
 ·rename_i j want e;rw[e];simp only
  split at hg
  ·rename_i d hd;split at hg
   ·rename_i c hc;cases hg;obtain⟨bx,hv⟩:=aN.1 hc;have h1:=h.t d bx;rw[show st.tm.getD d ah.undef=.bool c by simp[List.getD,hc]]at h1;have h2:a.tmps[d]? = some (.bool c):=by
     rw[aE (by rw[h.n];exact bx)];have:=h1.jj;rw[au,aE (by rw[h.n];exact bx)]at this;simpa using this
    simp only[yielded,hd,fq,h2];cases c<;>cases want<;>rfl
   ·rename_i v hv;split at hg
    ·cases hg
    ·rename_i RB;cases hg;obtain⟨bx,R7⟩:=aN.1 hv;have h1:=h.t d bx;rw[show st.tm.getD d ah.undef=.qf v by simp[List.getD,hv]]at h1;have h2:a.tmps[d]? = some v:=by
      rw[aE (by rw[h.n];exact bx)];have RL:∀ {M:Nat->Nat->Prop} {x y:Value},cn w M β x (.qf y)->x=y:=λh=>by cases h;rfl
      have:a.tmps.getD d undef=v:=RL h1;rw[au,aE (by rw[h.n];exact bx)]at this;simpa using this
     simp only[yielded,hd,fq,h2];cases v<;>first|rfl|exact absurd rfl RB
   ·cases hg
  ·cases hg
theorem Rel.keep {X:Nat->Nat->Prop} {base mb l:Nat} {D:List Deferred} {β β':Env} {a:Act} {w w':World} {σ':av} (h:Rel X base mb D st β a w) (hs:c8 X base σ' β' w') (he:Ext l st.σ β w σ' β' w') (hβ:∀b L,β b=some L->β' b=some L) :
  Rel X base mb D ⟨st.tm,σ'⟩ β' a w':=h.next hs he hβ (v:=undef) (r:=.undef) (.undef _) none
theorem mR.nil {ops:Array Oper}{r:List Nat}{Q:cB->St->Prop}(h:Q .normal st):mR P lo ops r [] st Q :=
 λX base mb D β a w b k cs h1 h2 h3=>⟨.normal,st,β,a,w,h,h1,h3,Ext.refl _ _ _ _,rfl,.refl _ _⟩
theorem mR.E5 {ops:Array Oper}{r:List Nat}{i:Nat}{rest:List Nat}{o:Oper}{Q:cB->St->Prop}(ho:ops[i]? = some o)(hg:nc ops st.tm o=some false)(h:mR P lo ops r rest ⟨put st.tm o.dst gone,st.σ⟩ Q):mR P lo ops r (i :: rest) st Q:=by
 intro X base mb D β a w b k cs h1 h2 h3;have hw:=Cp h3 hg;have h4:=h3.next h3.s (Ext.refl 0 _ _ _) (λ_ _ h=>h) (v:=undef) (r:=gone) (.qf _) o.dst;obtain⟨e,eG,β',a',w',q,r1,r2,r3,rd,r4⟩:=h X base mb D β _ w b k cs h1 h2 h4;refine⟨e,eG,β',a',w',q,r1,r2,r3,by rw[rd];cases o.dst<;>rfl,.of_steps (.one (stepR_op_skip (by simp[ho,hw]))) ?_⟩;rw[ho];exact r4
theorem XT {σ:av}{nm:Nat}{ρ:Operand->ah}{o:Oper}{r:ah×av}(h:dJ P σ nm ρ o.op=some r):∀c,o.op≠.defer c:=by
 intro c e;rw[e]at h;simp[dJ]at h
theorem mR.op {ops:Array Oper} {rs:List Nat} {i:Nat} {rest:List Nat} {o:Oper} {Q:cB->St->Prop} (ho:ops[i]? = some o) (hg:nc ops st.tm o=some true) {r:ah} {σ':av} (hE:dJ P st.σ st.σ.length (ev st.tm) o.op=some (r,σ'))
  (hlen:lo.n<=st.σ.length->lo.n<=σ'.length) (h:mR P lo ops rs rest ⟨put st.tm o.dst r,σ'⟩ Q):mR P lo ops rs (i :: rest) st Q:=by
 intro X base mb D β a w b k cs h1 h2 h3;have hw:=Cp h3 hg;obtain⟨v,w1,fI,fE,g1,g2,g3,g4,g5⟩:=W4 h3.s (h3.s.o_ _ (ae _)) (λx=>xw h3 x) (λ_=>rfl) hE;have hrel:=h3.next g1 g3 g5 g2 o.dst;obtain⟨e,eG,β',a',w',q,r1,r2,r3,rd,r4⟩:=h X base mb D fI _ w1 b k cs (hlen h1) (dg h2 g3.size) hrel;have rB:Ext lo.n st.σ β w σ' fI w1:=⟨g3.os,g3.tape,g3.output,g3.size,g3.cell,g3.block,g3.jq,λc hc=>g4 c (by omega)⟩;refine⟨e,eG,β',a',w',q,r1,r2,rB.trans r3,by rw[rd];cases o.dst<;>rfl,.of_steps (.one (step_lone_go ?_)) r4⟩;rw[bq,stepGR_op ho hw,Oper.semAt_eq _ _ _ (XT hE)];have gW:=Frame.finish_atR b a ops i (rest++rs) k v;rw[ho]at gW;rcases fE with fE|⟨fE,rfl⟩
 ·simp only[stepG.apply,if_true,Sem.runT_eq,fE,GStep.bare_after,GStep.bare_go];rw[gW];rfl
 ·simp only[stepG.apply,if_true,Sem.runT_eq,fE,GStep.bare_after,GStep.bare_go];rw[gW];rfl
theorem mR.region {id:Nat}{ops:Array Oper}{Q:cB->St->Prop}(h:mR P lo ops [] (List.range ops.size) st Q):jn P lo (.region id ops false) st Q:=by
 intro X base mb D β a w b k cs h1 h2 h3 _;obtain⟨e,eG,β',a',w',q,r1,r2,r3,rd,r4⟩:=h X base mb D β a w b k cs h1 h2 h3;rw[bf]at r4;refine⟨e,eG,β',a',w',q,r1,r2,r3,.of_steps (.one stepR_region) ?_⟩;cases e with
 |normal=>exact Steps.trans r4 (.one stepR_region_end)
 |exit id=>obtain⟨k',e1,e2⟩:=r4;exact⟨k',by rw[e1];rfl,e2⟩
 |goto l=>obtain⟨k',e1,e2⟩:=r4;exact⟨k',by rw[e1];rfl,e2⟩
 |ret=>exact r4
 |panic u=>exact r4
def z_ (fr:Frame):Prop:=∀d b s a k,fr.todo≠.call d b s a :: k
def Fin (P:Program)(fr:Frame)(cs:List Frame)(s:Sem Next)(w:World)(v:Value)(w':World):Prop :=
 ∃f1 CV w1,(stepG.apply P true fr cs none s w).bare=.go { frame:=f1,callers:=CV,status:=.running,dying:=none } w1/\Steps P (lone f1 CV w1) (lone (fr.finish v) cs w')
def dn (P:Program) (F:Frame->List Frame->Sem Next->World->Value->World->Prop) (f:ah) (args:List ah) (σ:av) (K:ah->av->Prop):Prop :=
 ∀ (X:Nat->Nat->Prop) (base:Nat) (β:Env) (w:World) (vf:Value) (vs:Array Value),c8 X base σ β w->cn w (MT X σ β) β vf f->vs.size=args.length ->
  (∀k,k<args.length->cn w (MT X σ β) β (vs.getD k undef) (args.getD k .undef))->∀(fr:Frame) (cs:List Frame),z_ fr ->
  ∃r σ' β' v w',K r σ'/\c8 X base σ' β' w'/\cn w' (MT X σ' β') β' v r/\Ext σ.length σ β w σ' β' w'/\σ.length<=σ'.length /\
   F fr cs (do let d <-Deferred.ofValue vf vs;invoke d.target d.args) w v w'
def iZ (P:Program) (F:Frame->List Frame->Sem Next->World->Value->World->Prop) (g:FuncId) (args:List ah) (σ:av) (K:ah->av->Prop):Prop :=
 ∀(X:Nat->Nat->Prop) (base:Nat) (β:Env) (w:World) (vs:Array Value),c8 X base σ β w->vs.size=args.length ->
  (∀k,k<args.length->cn w (MT X σ β) β (vs.getD k undef) (args.getD k .undef))->∀(fr:Frame) (cs:List Frame),z_ fr ->
  ∃r σ' β' v w',K r σ'/\c8 X base σ' β' w'/\cn w' (MT X σ' β') β' v r/\Ext σ.length σ β w σ' β' w'/\σ.length<=σ'.length/\F fr cs (callFunc g vs) w v w'
abbrev ak (P:Program)(f:ah)(args:List ah)(σ:av)(K:ah->av->Prop):Prop:=dn P (Fin P) f args σ K
abbrev cj (P:Program)(g:FuncId)(args:List ah)(σ:av)(K:ah->av->Prop):Prop:=iZ P (Fin P) g args σ K
theorem dn.mono {F:Frame->List Frame->Sem Next->World->Value->World->Prop}{f:ah}{args:List ah}{σ:av}{K K':ah->av->Prop}(h:dn P F f args σ K)(hk:∀r s,K r s->K' r s):dn P F f args σ K':=by
 intro X base β w vf vs h1 ou h2 h3 fr cs h4;obtain⟨r,σ',β',v,w',q,rest⟩:=h X base β w vf vs h1 ou h2 h3 fr cs h4;exact⟨r,σ',β',v,w',hk _ _ q,rest⟩
theorem ak.mono {f:ah}{args:List ah}{σ:av}{K K':ah->av->Prop}(h:ak P f args σ K)(hk:∀r s,K r s->K' r s):ak P f args σ K':=dn.mono h hk
theorem ak.sh {F:Frame->List Frame->Sem Next->World->Value->World->Prop} {g:FuncId} {first captured args:List ah} {σ:av} {K:ah->av->Prop} (h:iZ P F g (first++args++captured) σ K):dn P F (.fn g first captured) args σ K:=by
 intro X base β w vf vs h1 ou h2 h3 fr cs h4;cases ou with
 | @fn _ fa ca _ _ e1 e2 r1 r2 =>
  obtain ⟨r,σ',β',v,w',q,g1,g2,g3,g4,g5⟩:=h X base β w (fa++vs++ca) h1 (by simp[e1,e2,h2]) (λk hk=>by
   simp only[aA]at hk;rw[vW,vW,Vu];simp only[aA];by_cases c1:k<first.length
   ·rw[if_pos (by omega),if_pos (by omega),if_pos c1];exact r1 k c1
   ·by_cases c2:k<first.length+args.length
    ·rw[if_neg (by omega),if_pos (by omega),if_pos c2,if_neg c1,e1];exact h3 _ (by omega)
    ·rw[if_neg (by omega),if_neg (by omega),if_neg c2,e1,h2];exact r2 _ (by omega)) fr cs h4
  refine⟨r,σ',β',v,w',q,g1,g2,g3,g4,?_⟩;have:(do let d <-Deferred.ofValue (.func (.func g) fa ca) vs;invoke d.target d.args:Sem Next)=callFunc g (fa++vs++ca):=rfl
  rw[this];exact g5
def MS (P:Program)(fr:Frame)(cs:List Frame)(s:Sem Next)(w:World)(u:Value)(w':World):Prop :=
 ∃f1 CV w1,(stepG.apply P true fr cs none s w).bare=.go { frame:=f1,callers:=CV,status:=.running,dying:=none } w1/\Steps P (lone f1 CV w1) (lone (fr.raise [{ v:=u,recovered:=false }]) cs w')
abbrev HJ (P:Program)(f:ah)(args:List ah)(σ:av)(K:ah->av->Prop):Prop:=dn P (MS P) f args σ K
theorem mR.call {ops:Array Oper} {rs:List Nat} {i:Nat} {rest:List Nat} {o:Oper} {Q:cB->St->Prop} (ho:ops[i]? = some o) (hg:nc ops st.tm o=some true) {f:Operand} {args:Array Operand} {ts:Array TypeId} (hop:o.op=.call { callee:=.value f,args,argTypes:=ts })
  (h:ak P (ev st.tm f) (args.toList.map (ev st.tm)) st.σ (λr σ'=>mR P lo ops rs rest ⟨put st.tm o.dst r,σ'⟩ Q)):mR P lo ops rs (i :: rest) st Q:=by
 intro X base mb D β a w b k cs h1 h2 h3;have hw:=Cp h3 hg;obtain⟨r,σ',β',v,w1,q,g1,g2,g3,g4,f1,CV,w2,g5,g6⟩:=h X base β w (a.eval f) (args.map a.eval) h3.s (xw h3 f) (by simp) (λj hj=>by
  simp only[ao,bR]at hj;rw[au,fg,aE hj];simp only[List.getD,cE,fQ,aE hj,bD,bd];exact xw h3 _) (b.atR a (.inRegion ops (i :: (rest++rs)):: k)) cs (λd b' s a' k' e=>by simp[Frame.atR]at e)
 have hβ:∀c L,β c=some L->β' c=some L:=λc L hc=>by
  by_cases gM:c<st.σ.length
  ·rw[g3.env c gM];exact hc
  ·rw[h3.s.o_ c (by omega)]at hc;cases hc
 have hrel:=h3.next g1 g3 hβ g2 o.dst;obtain⟨e,eG,nZ,a',w',q',r1,r2,r3,rd,r4⟩:=q X base mb D β' _ w1 b k cs (dg h1 g4) (dg h2 g3.size) hrel;refine⟨e,eG,nZ,a',w',q',r1,r2,(g3.lower h1).trans r3,by rw[rd];cases o.dst<;>rfl,.of_steps (.head (step_lone_go ?_) g6) ?_⟩
 ·rw[bq,stepGR_op ho hw,Oper.semAt_eq _ _ _ (λc e=>by rw[hop]at e;cases e)];rw[<-g5];congr 2;simp only[execOp,hop,resolve]
 ·have gW:=Frame.finish_atR b a ops i (rest++rs) k v;rw[ho]at gW;rw[gW];exact r4
def oX:ah->Option Value
 |.bool b=>some (.bool b)
 |.int k n=>some (.int k n)
 |.str s=>some (.string s)
 |_=>none
def qJ:List ah->Option (List Value)
 |[]=>some []
 |a :: l=>(oX a).bind λv=>(qJ l).map (v :: ·)
def Dq:ah->Option Value
 |.iface t (.agg cs)=>(qJ cs).map λl=>.iface t (.agg l.toArray)
 |.iface t a=>(oX a).map (.iface t)
 |_=>none
theorem Ycl {M:Nat->Nat->Prop}{β:Env}{w:World}{a:ah}{v u:Value}(hp:oX a=some u)(h:cn w M β v a):v=u:=by
 cases a<;>simp only[oX,reduceCtorEq,aM]at hp<;>subst hp<;>cases h<;>rfl
theorem Ydf {M:Nat->Nat->Prop}{β:Env}{w:World}{a:ah}{u:Value}(hp:oX a=some u):cn w M β u a:=by
 cases a<;>simp only[oX,reduceCtorEq,aM]at hp<;>subst hp<;>constructor
theorem Vv {M:Nat->Nat->Prop} {β:Env} {w:World}:∀ {cs:List ah} {us:List Value},qJ cs=some us->us.length=cs.length/\(∀k,k<cs.length->cn w M β (us.getD k undef) (cs.getD k .undef)) /\
  ∀vs:List Value,vs.length=cs.length->(∀k,k<cs.length->cn w M β (vs.getD k undef) (cs.getD k .undef))->vs=us
 |[],us,h=>by
  simp only[qJ,aM]at h;subst h;exact⟨rfl,λk hk=>absurd hk (Nat.not_lt_zero _),λvs hv _=>bn hv⟩
 | a :: l,us,h=>by
  simp only[qJ,aB,aP]at h;obtain⟨v,h1,HE,h2,rfl⟩:=h;obtain⟨g1,g2,g3⟩:=Vv h2;refine⟨by simp[g1],λk hk=>?_,λvs hv hr=>?_⟩
  ·cases k with
   |zero=>exact Ydf h1
   |succ k=>simpa using g2 k (by simpa using hk)
  ·cases vs with
   |nil=>simp at hv
   |cons y vs =>
    have e1:=Ycl h1 (hr 0 (by simp));simp only[aV]at e1;rw[e1,g3 vs (by simpa using hv) (λk hk=>by simpa using hr (k+1) (by simpa using hk))]
theorem Tx {M:Nat->Nat->Prop} {β:Env} {w:World} {a:ah} {v u:Value} (hp:Dq a=some u) (h:cn w M β v a):v=u:=by
 cases a<;>simp only[Dq,reduceCtorEq]at hp;rename_i t a;cases h with
 | @iface _ y _ hy =>
  cases a<;>simp only[oX,lz,reduceCtorEq,bD,aM]at hp
  all_goals first
   |(subst hp;cases hy;rfl)
   | (obtain ⟨us,h1,rfl⟩:=aP.1 hp
      cases hy with
      | @agg cs l hn hr =>
       obtain⟨_,_,g3⟩:=Vv (w:=w) (M:=M) (β:=β) h1;have:=g3 cs.toList (by simpa using hn) (λk hk=>by
        have:=hr k hk
        rwa [show cs.getD k Go.undef=cs.toList.getD k Go.undef by simp[List.getD,au]]at this)
       rw[<-this])
theorem Yi1 {a:ah} {u:Value} (hp:Dq a=some u):∃t x,u=.iface t x:=by
 cases a<;>simp only[Dq,reduceCtorEq]at hp;rename_i t a;cases a<;>simp only[oX,lz,reduceCtorEq,bD,aM]at hp
 all_goals first
  |(subst hp;exact⟨_,_,rfl⟩)
  |(obtain⟨us,h1,rfl⟩:=aP.1 hp;exact⟨_,_,rfl⟩)
theorem mR.pan {ops:Array Oper} {rs:List Nat} {i:Nat} {rest:List Nat} {o:Oper} {Q:cB->St->Prop} (ho:ops[i]? = some o) (hg:nc ops st.tm o=some true) {f:Operand} {args:Array Operand} {ts:Array TypeId} (hop:o.op=.call { callee:=.value f,args,argTypes:=ts })
  (h:HJ P (ev st.tm f) (args.toList.map (ev st.tm)) st.σ (λr σ'=>∃u,Dq r=some u/\Q (.panic u) ⟨st.tm,σ'⟩)):mR P lo ops rs (i :: rest) st Q:=by
 intro X base mb D β a w b k cs h1 h2 h3;have hw:=Cp h3 hg;obtain⟨r,σ',β',v,w1,⟨u,hu,q⟩,g1,gr,g3,g4,f1,CV,w2,g5,g6⟩:=h X base β w (a.eval f) (args.map a.eval) h3.s (xw h3 f) (by simp) (λj hj=>by
  simp only[ao,bR]at hj;rw[au,fg,aE hj];simp only[List.getD,cE,fQ,aE hj,bD,bd];exact xw h3 _) (b.atR a (.inRegion ops (i :: (rest++rs)):: k)) cs (λd b' s a' k' e=>by simp[Frame.atR]at e)
 have hβ:∀c L,β c=some L->β' c=some L:=λc L hc=>by
  by_cases gM:c<st.σ.length
  ·rw[g3.env c gM];exact hc
  ·rw[h3.s.o_ c (by omega)]at hc;cases hc
 obtain rfl:=Tx hu gr;refine⟨.panic v,⟨st.tm,σ'⟩,β',a,w1,q,dg h1 g4,h3.keep g1 g3 hβ,g3.lower h1,rfl,.inRegion ops (i :: (rest++rs)):: k,.head (step_lone_go ?_) g6⟩;rw[bq,stepGR_op ho hw,Oper.semAt_eq _ _ _ (λc e=>by rw[hop]at e;cases e)];rw[<-g5];congr 2;simp only[execOp,hop,resolve]
theorem mR.panic {ops:Array Oper} {rs:List Nat} {i:Nat} {rest:List Nat} {o:Oper} {Q:cB->St->Prop} (ho:ops[i]? = some o) (hg:nc ops st.tm o=some true) {x:Operand} (hop:o.op=.panic x) {u:Value} (hu:Dq (ev st.tm x)=some u)
  (h:Q (.panic u) st):mR P lo ops rs (i :: rest) st Q:=by
 intro X base mb D β a w b k cs h1 h2 h3;have hw:=Cp h3 hg;have hv:=Tx hu (xw h3 x);obtain⟨t,y,hi⟩:=Yi1 hu;refine⟨.panic u,st,β,a,w,h,h1,h3,Ext.refl _ _ _ _,rfl,.inRegion ops (i :: (rest++rs)):: k,.one (step_lone_go ?_)⟩;rw[bq,stepGR_op ho hw,Oper.semAt_eq _ _ _ (λc e=>by rw[hop]at e;cases e)];have fE:(execOp a.eval o).run P w=.halt (.panic u) w:=by
  simp only[execOp,hop,hv,hi,Instr.panic,Sem.run_bind];rfl
 simp only[stepG.apply,if_true,Sem.runT_eq,fE,GStep.bare_after,GStep.bare_go];rfl
def sM (tm:List ah)(σ:av)(P:Program):ResultVar->Option ah
 |.tmp t=>some (tm.getD t .undef)
 |.cell a t=>(cC P t).bind λl=>jW σ l (tm.getD a .undef)
def gP (P:Program)(st:St)(rs:List ResultVar):Option ah :=
 match rs.mapM (sM st.tm st.σ P) with
 |some [v]=>some v
 |some vs=>some (.dw vs)
 |none=>none
def Bu (tmps:Array Value):ResultVar->Sem Value
 |.tmp t=>pure (tmps.getD t undef)
 |.cell a t=>do loadVar t (<-asAddr (tmps.getD a undef))
theorem Ydx (fn:Func)(tmps:Array Value):results fn tmps=(do let vs <-fn.results.mapM (Bu tmps);pure (if h:vs.size=1 then vs[0] else .tuple vs)):=rfl
theorem Ypr {X:Nat->Nat->Prop} {base mb:Nat} {D:List Deferred} {β:Env} {a:Act} {w:World} (h:Rel X base mb D st β a w) (r:ResultVar) {v:ah} (hv:sM st.tm st.σ P r=some v) :
  ∃x,(Bu a.tmps r).run P w=.ok x w/\cn w (MT X st.σ β) β x v:=by
 cases r with
 |tmp t =>
  simp only[sM,aM]at hv;subst hv;exact⟨_,rfl,xw h (.tmp t)⟩
 |cell c t =>
  obtain⟨l,hl,h1⟩:=aB.1 hv;obtain⟨cs,⟨g,of,cv,e1,e2,e3⟩,h4⟩:=VX h.s (xw h (.tmp c)) h1;obtain⟨x,h5,h6⟩:=Vg hl e2 e3 h4;refine⟨x,?_,h6⟩;simp only[Act.eval]at e1;simp only[Bu,Sem.run_bind,e1,asAddr,Sem.run_pure,Result.andThen_ok,h5]
theorem Vs {X:Nat->Nat->Prop} {base mb:Nat} {D:List Deferred} {β:Env} {a:Act} {w:World} (h:Rel X base mb D st β a w) {fn:Func} {v:ah} (hv:gP P st fn.results.toList=some v) :
  ∃x,(results fn a.tmps).run P w=.ok x w/\cn w (MT X st.σ β) β x v:=by
 have key:∀(rs:List ResultVar) (vs:List ah),rs.mapM (sM st.tm st.σ P)=some vs ->
   ∃xs:List Value,(rs.mapM (Bu a.tmps)).run P w=.ok xs w/\xs.length=vs.length /\
    ∀k,k<vs.length->cn w (MT X st.σ β) β (xs.getD k undef) (vs.getD k .undef):=by
  intro rs
  induction rs with
  |nil=>intro vs hm;simp at hm;subst hm;exact⟨[],rfl,rfl,λk hk=>by simp at hk⟩
  | cons r rs ih =>
   intro vs hm;simp only[oF,Option.bind_eq_bind,aB,Option.pure_def,aM]at hm;obtain⟨y,hy,ys,Et,rfl⟩:=hm;obtain⟨x,h1,h2⟩:=Ypr h r hy;obtain⟨xs,h3,h4,h5⟩:=ih ys Et;refine⟨x :: xs,?_,by simp[h4],λk hk=>?_⟩
   ·rw[oF,Sem.run_bind,h1];simp only[Result.andThen_ok,Sem.run_bind];rw[h3];rfl
   ·cases k with
    |zero=>exact h2
    |succ k=>simp only[aq]at hk;simpa using h5 k (by omega)
 unfold gP at hv;have De:∀xs:List Value,(fn.results.toList.mapM (Bu a.tmps)).run P w=.ok xs w ->
   (results fn a.tmps).run P w=.ok (if h:xs.toArray.size=1 then xs.toArray[0] else .tuple xs.toArray) w:=by
  intro xs uJ;simp only[Ydx,Sem.run_bind];rw[show fn.results=fn.results.toList.toArray from(s0).symm,List.mapM_toArray]
  simp only[Sem.run_map];rw[uJ];rfl
 split at hv
 ·rename_i y hm;simp only[aM]at hv;subst hv;obtain⟨xs,h1,h2,h3⟩:=key _ _ hm
  match xs,h2 with
  |[x],_=>exact⟨x,De _ h1,h3 0 (by simp)⟩
 ·rename_i vs dL hm;simp only[aM]at hv;subst hv;obtain⟨xs,h1,h2,h3⟩:=key _ _ hm;refine⟨.tuple xs.toArray,?_,.dw (by simpa using h2) (λk hk=>?_)⟩
  ·rw[De _ h1,dif_neg];simp only[List.size_toArray];intro ou;rw[h2]at ou
   match vs,ou with
   |[y],_=>exact dL y rfl
  ·have:=h3 k hk
   rwa [show xs.toArray.getD k undef=xs.getD k undef by simp[List.getD,au]]
 ·cases hv
def St.enter (fn:Func)(args:List ah)(σ:av):St:=⟨args++List.replicate (fn.ntmps-args.length) .undef,σ⟩
def D2 (P:Program)(fn:Func)(K:ah->av->Prop)(e:cB)(s:St):Prop :=
 match e with
 |.normal|.ret=>∃r,gP P s fn.results.toList=some r/\K r s.σ
 |_=>False
theorem Wa {mb:Nat} {D:List Deferred}:∀(rs:List Nat) (w:World) (fr:Frame) (cs:List Frame),fr.mode≠.run->fr.defers=rs.map (λr=>{ target:=.collected r,args:=#[] })++D->rs.Nodup ->
  (∀r∈rs,mb<=r/\w.heap[r]? = some (.deferred (some []))) ->
  ∃w',Steps P (lone fr cs w) (lone { fr with defers:=D } cs w')/\w'.os=w.os/\w'.tape=w.tape/\w'.output=w.output/\w'.heap.size=w.heap.size/\(∀g,(∀r∈rs,g≠r)->w'.heap[g]? = w.heap[g]?) /\
   ∀r∈rs,w'.heap[r]? = some (.deferred none)
 |[],w,fr,cs,hm,hd,_,_=>by
  simp only[aR,aY]at hd;refine⟨w,?_,rfl,rfl,rfl,rfl,λ_ _=>rfl,λr hr=>by simp at hr⟩;have : { fr with defers:=D }=fr:=by cases fr;simp_all
  rw[this];exact .refl _ _
 | r :: rs,w,fr,cs,hm,hd,hn,hw=>by
  simp only[aI,bq]at hd;have h1:=(hw r (by simp)).2;have bx:r<w.heap.size:=(aQ.1 h1).1;have fE:(Instr.takeDeferred r).run P w=.ok [] { w with heap:=w.heap.setIfInBounds r (.deferred none) }:=by
   simp[Instr.takeDeferred,getObj,setObj,Sem.run,h1]
  have fN:step P (lone fr cs w)=.next (lone { fr with defers:=rs.map (λr=>{ target:=.collected r,args:=#[] })++D } cs { w with heap:=w.heap.setIfInBounds r (.deferred none) }):=by
   refine step_lone_go ?_;cases AZ:fr.mode with
   |run=>exact absurd AZ hm
   |returning=>simp[stepG,unwind,AZ,hd,Sem.runT_eq,fE]
   |panicking ch=>simp[stepG,unwind,AZ,hd,Sem.runT_eq,fE]
  have MA:=fM.1 hn;obtain⟨w',g1,g2,g3,g4,g5,g6,g7⟩:=Wa (mb:=mb) (D:=D) rs { w with heap:=w.heap.setIfInBounds r (.deferred none) } { fr with defers:=rs.map (λr=>{ target:=.collected r,args:=#[] })++D } cs hm rfl MA.2
   (λq hq=>⟨(hw q (by simp[hq])).1,by
    have:q≠r:=by rintro rfl;exact MA.1 hq
    simp only[bK];rw[if_neg (gV this)];exact(hw q (by simp[hq])).2⟩)
  refine⟨w',.head fN g1,g2,g3,g4,by rw[g5];simp,λg hg=>?_,λq hq=>?_⟩
  ·rw[g6 g (λq hq=>hg q (by simp[hq]))];simp only[bK];rw[if_neg (gV (hg r (by simp)))]
  ·simp only[aU]at hq;rcases hq with rfl|hq
   ·by_cases fA:q∈rs
    ·exact g7 q fA
    ·rw[g6 q (λr' sU e=>fA (e ▸ sU))];simp[bK,bx]
   ·exact g7 q hq
theorem Rel.BD {X:Nat->Nat->Prop} {base mb:Nat} {D:List Deferred} {β:Env} {a:Act} {w:World} (h:Rel X base mb D st β a w) (fr:Frame) (cs:List Frame) (hm:fr.mode≠.run) (hd:fr.defers=a.defers) :
  ∃w2,Steps P (lone fr cs w) (lone { fr with defers:=D } cs w2)/\Rel X base mb D st β { a with defers:=D } w2 /\
   ∀lo lG DC w0,w0.heap.size<=mb->Ext lo lG DC w0 st.σ β w->Ext lo lG DC w0 st.σ β w2:=by
 obtain⟨rs,m1,m2,m3⟩:=h.d;obtain⟨w2,t1,t2,t3,t4,t5,t6,t7⟩:=Wa (P:=P) (D:=D) rs w fr cs hm (hd.trans m1) m2 m3;have j9:∀(g':Nat) (o:Obj),w.heap[g']? = some o->(∀d,o≠.deferred d)->w2.heap[g']? = some o:=by
  intro g' o ho dL;rw[t6 g' (λr hr e=>by subst e;rw[(m3 g' hr).2]at ho;cases ho;exact dL _ rfl)];exact ho
 have lS:∀(g' o:Nat) (v:Value),w.cell? ⟨g',o,none⟩=some v->w2.cell? ⟨g',o,none⟩=some v:=by
  intro g' o v hc;obtain⟨c',e',fz,wa⟩:∃c' e' fz,w.heap[g']? = some (.cells c' e' fz):=by
   simp only[World.cell?]at hc;split at hc
   ·rename_i c' e' fz wa;exact⟨_,_,_,wa⟩
   ·cases hc
  rw[World.cell?_of_block (w:=w) (by rw[j9 _ _ wa (λd e=>by cases e),wa])];exact hc
 have pH:dK w (MT X st.σ β) w2 (MT X st.σ β) :=
  ⟨λg' o v hc hn=>⟨lS g' o v hc,hn⟩,λg' es cl hg hn=>⟨j9 _ _ hg (λd e=>by cases e),hn⟩⟩
 have zW:c8 X base st.σ β w2:=by
  refine⟨h.s.o_,λb' cG oP=>?_,h.s.inj,by rw[t5];exact h.s.size,λg' o hx=>by rw[t5];exact h.s.sc g' o hx,λx hx=>let ⟨g1,v,g2,g3⟩:=h.s.gl x hx;⟨g1,v,lS _ _ _ g2,g3⟩⟩
  obtain⟨L,q1,q2,q3,q4⟩:=h.s.cG b' cG oP;refine⟨L,q1,q2,q3,q4.mono pH (λ_ _ h=>h) ?_⟩;cases cG with
  |var pD=>obtain⟨c',e',h,_⟩:=q4;rw[j9 _ _ h (λd e=>by cases e),h]
  |row es fz=>obtain⟨c',e',h,_⟩:=q4;rw[j9 _ _ h (λd e=>by cases e),h]
  |map ks vV fz=>obtain⟨c',e',h,_⟩:=q4;rw[j9 _ _ h (λd e=>by cases e),h]
  |iter s p=>have h:w.heap[L.g]? = some (.stringIter s p):=q4;rw[j9 _ _ h (λd e=>by cases e),h]
  |mC ks vV seen=>obtain⟨m',uB,c',h,_⟩:=q4;rw[j9 _ _ h (λd e=>by cases e),h]
  |loop r'=>obtain⟨c',e',f',h,_⟩:=q4;rw[j9 _ _ h (λd e=>by cases e),h]
 refine⟨w2,t1,⟨zW,h.n,λk hk=>(h.t k hk).mono pH (λ_ _ h=>h),⟨[],by simp,mc,λr hr=>by simp at hr⟩⟩,λlo lG DC w0 B7 r3=>?_⟩;refine⟨t2.trans r3.os,t3.trans r3.tape,t4.trans r3.output,by rw[t5];exact r3.size,λg' o v hc hn=>?_,λg' wa hn=>?_,r3.jq,r3.env⟩
 ·have tx:=r3.cell g' o v hc hn;have bx:=Ae hc;rw[World.cell?_of_block (w:=w) (a:=⟨g',o,none⟩) (t6 g' (λr hr e=>by have:=(m3 r hr).1;omega))];exact tx
 ·rw[t6 g' (λr hr e=>by have:=(m3 r hr).1;omega)];exact r3.block g' wa hn
def lR (g:FuncId)(kind:CallKind):Frame:={ (default:Frame) with fn:=g,kind }
theorem V3 {g:FuncId} {fn:Func} {c:Code} (hf:P.funcs[g]? = some fn) (hb:fn.body=some c) (vs:Array Value) (kind:CallKind) :
  Frame.enter P g vs kind=(lR g kind).atR { tmps:=vs++Array.replicate (fn.ntmps-vs.size) undef,defers:=[] } [.code c]:=by
 simp[Frame.enter,Frame.atR,hf,hb,lR];rfl
theorem Xj {X:Nat->Nat->Prop} {base:Nat} {fn:Func} {args:List ah} {σ:av} {β:Env} {w:World} {vs:Array Value} (h1:c8 X base σ β w) (h2:vs.size=args.length)
  (h3:∀k,k<args.length->cn w (MT X σ β) β (vs.getD k undef) (args.getD k .undef)) :
  Rel X base w.heap.size [] (St.enter fn args σ) β { tmps:=vs++Array.replicate (fn.ntmps-vs.size) undef,defers:=[] } w:=by
 refine⟨h1,by simp only[St.enter,Array.size_append,Array.size_replicate,aA,bJ,h2],λk hk=>?_,⟨[],rfl,mc,λr hr=>by simp at hr⟩⟩;simp only[St.enter]at hk ⊢;rw[vW,au,mF];by_cases c1:k<args.length
 ·rw[if_pos (by omega),if_pos c1,<-au];exact h3 k c1
 ·rw [if_neg c1];have:(List.replicate (fn.ntmps-args.length) ah.undef).getD (k-args.length) .undef=.undef:=by
   simp[List.getD,dz];split<;>rfl
  rw[this];exact .undef _
theorem Zwg {fr : Frame} {cs : List Frame} {w : World} {g : FuncId} {fn : Func} {c : Code} {vs : Array Value} (hf : P.funcs[g]? = some fn) (hb : fn.body = some c) (fe : (fn.name == "runtime.NumGoroutine") = false) (B4 : z_ fr) :
  (stepG.apply P true fr cs none (callFunc g vs) w).bare=.go { frame:=Frame.enter P g vs .normal,callers:=fr :: cs,status:=.running,dying:=none } w:=by
 have tF : ¬ fn.name = "runtime.NumGoroutine" := by simpa using fe
 have iz:(callFunc g vs).run P w=.ok (.enter g vs) w:=by simp[callFunc,hf,tF,hb]
 simp only[stepG.apply,if_true,Sem.runT_eq,iz,GStep.bare_after,GStep.bare_go];split
 ·rename_i d s a k e;exact absurd e (B4 _ _ _ _ _)
 ·rfl
theorem Zxy {X:Nat->Nat->Prop} {base mb:Nat} {fn:Func} {eG:St} {β':Env} {a':Act} {w':World} {b:Frame} {k:List Item} {r:ah} {g:FuncId} {cs:List Frame} (hf:P.funcs[g]? = some fn) (hg:b.fn=g) (r2:Rel X base mb [] eG β' a' w')
  (hr:gP P eG fn.results.toList=some r) :
  ∃x w2,cn w2 (MT X eG.σ β') β' x r/\c8 X base eG.σ β' w2/\(∀lo lG DC w0,w0.heap.size<=mb->Ext lo lG DC w0 eG.σ β' w'->Ext lo lG DC w0 eG.σ β' w2) /\
   Steps P (lone { b.atR a' k with mode:=.returning } cs w') (lone { b.atR { a' with defers:=[] } k with mode:=.returning } cs w2) /\
   (stepG P true { frame:={ b.atR { a' with defers:=[] } k with mode:=.returning },callers:=cs,status:=.running,dying:=none } w2).bare=(doReturn P true { b.atR { a' with defers:=[] } k with mode:=.returning } cs none x w2).bare:=by
 obtain⟨w2,t1,uY,rB⟩:=r2.BD (P:=P) { b.atR a' k with mode:=.returning } cs (by simp) rfl;obtain⟨x,xS,Es⟩:=Vs uY hr;refine⟨x,w2,Es,uY.s,rB,t1,?_⟩;have Sb:(results fn a'.tmps).run P w2=.ok x w2:=xS;subst hg;simp[stepG,unwind,Frame.atR,hf,Sem.runT_eq,Sb]
theorem cj.body {g : FuncId} {fn : Func} {c : Code} {args : List ah} {σ : av} {K : ah → av → Prop} (hf : P.funcs[g]? = some fn) (hb : fn.body = some c) (fe : (fn.name == "runtime.NumGoroutine") = false)
  (h:jn P ⟨σ.length,none⟩ c (St.enter fn args σ) (D2 P fn K)):cj P g args σ K:=by
 intro X base β w vs h1 h2 h3 fr cs B4;obtain⟨e,eG,β',a',w',q,r1,r2,r3,r4⟩:=h X base w.heap.size [] β _ w (lR g .normal) [] (fr :: cs) (ae _) (ae _) (Xj h1 h2 h3) rfl;rw[<-V3 hf hb]at r4;have hq:∃r,gP P eG fn.results.toList=some r/\K r eG.σ:=by cases e<;>first|exact q|exact q.elim
 obtain⟨r,qa,po⟩:=hq;obtain⟨todo,gE⟩:∃todo,Steps P (lone (Frame.enter P g vs .normal) (fr :: cs) w) (lone { (lR g .normal).atR a' todo with mode:=.returning } (fr :: cs) w'):=by
  cases e with
  |normal=>exact⟨[],Steps.trans r4 (.one (stepR_end rfl))⟩
  |ret=>obtain⟨k',eZ⟩:=r4;exact⟨_,Steps.trans eZ (.one (stepR_ret rfl))⟩
  |exit id=>exact q.elim
  |goto l=>exact q.elim
  |panic u=>exact q.elim
 obtain⟨x,w2,hx,zW,rB,t1,t2⟩:=Zxy (k:=todo) (b:=lR g .normal) (cs:=fr :: cs) hf rfl r2 qa;refine⟨r,eG.σ,β',x,w2,po,zW,hx,rB _ _ _ _ (ae _) r3,r1,Frame.enter P g vs .normal,fr :: cs,w,Zwg hf hb fe B4,(gE.trans t1).trans (.one (step_lone_go ?_))⟩;rw[t2];simp[doReturn,Frame.atR,lR]
end
end Go.dq
