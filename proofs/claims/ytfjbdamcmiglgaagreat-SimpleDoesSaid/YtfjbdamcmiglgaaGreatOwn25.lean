/- Part 25 of what the claim rests on. -/
import Derived.Test.YtfjbdamcmiglgaaGreatOwn24
set_option linter.all false
abbrev de:=@Array.getElem?_replicate
abbrev dE:=@Bool.true_or
abbrev s_:=@Go.getD_set_ne
abbrev qp:=@List.getElem?_set_self'
abbrev nn:=@List.mem_of_getElem?
abbrev mU:=@List.reverse_nil
abbrev qV:=@List.reverse_singleton
abbrev sj:=@List.singleton_append
abbrev dD:=@Option.getD_none
namespace Go.dq
open Go
def oq (listed:Array Bool):Nat:=listed.toList.count false
theorem Le {listed:Array Bool} {i:Nat} (h:listed.getD i true=false):oq (listed.setIfInBounds i true)+1=oq listed:=by
 have hi:i<listed.size:=by
  refine kq λhle=>?_;simp[Array.getElem?_eq_none hle]at h
 have hv:listed.toList[i]'(by simpa using hi)=false:=by simpa[hi] using h
 simp only[oq,Array.toList_setIfInBounds];rw[List.count_set (by simpa using hi),hv];have : 0<listed.toList.count false:=List.count_pos_iff.2 (hv ▸ ay _);rw[show(true==false)=false from rfl]
 simp only[beq_self_eq_true,if_true,aX,if_false];omega
theorem N8 {listed:Array Bool}(h:oq listed=0){j:Nat}(hj:j<listed.size):listed.getD j false=true:=by
 have:false ∉ listed.toList:=List.count_eq_zero.1 h;cases hv:listed[j] with
 |true=>simp[hj,hv]
 |false=>exact absurd (by rw[<-hv];simp) this
theorem ga.some {V:Type}{m:Nat}{wr:Nat->Nat->Prop}{S:Nat->Nat->V}{D:Nat->Prop}{s:Nat->V}(h:ga m wr S D s)(l:Nat):∃k,k<=m/\s l=S k l:=by
 rcases NK (wr:=λj l=>D j/\wr j l) l m with h1|⟨j,h1,⟨h2,xi⟩,h3⟩
 ·exact⟨0,aj _,(h l).1 λj hj xC hw=>h1 j hj ⟨xC,hw⟩⟩
 ·exact⟨j+1,h1,(h l).2 j h1 h2 xi λj' qh QG zo=>en λbx=>h3 j' bx qh ⟨QG,zo⟩⟩
theorem Yr (l:fL)(p:ah):∃b:Nat,∀σ σ':av,σ[b]? = σ'[b]?->jW σ l p=jW σ' l p:=by
 cases p with
 |ptr b off=>exact⟨b,λσ σ' h=>by simp only[jW,bW,h]⟩
 |rp b i f=>exact⟨b,λσ σ' h=>by simp only[jW,bW,h]⟩
 |_=>exact⟨0,λ_ _ _=>rfl⟩
def z8 (P:Program)(m:Nat)(o:Oper)(tm:List ah)(SS:Nat->av)(i:Nat)(kC:List ah):Prop :=
 o.guard=none/\∃t x l r,o.op=.load t x/\cC P t=some l/\(∀k,k<=m->jW (SS k) l (ev tm x)=some r)/\kC=put tm o.dst r/\SS (i+1)=SS i
section
variable {P:Program}{lo:Ctx}{Q:cB->St->Prop}{ops:Array Oper}{fs:List Fp}{n0 N:Nat}{TM:Nat->List ah}{SS:Nat->av}{X:Nat->Nat->Prop}{base mb:Nat}{D:List Deferred}
def o8 (P:Program) (lo:Ctx) (Q:cB->St->Prop) (X:Nat->Nat->Prop) (base mb:Nat) (D:List Deferred) (b:Frame) (k:List Item) (cs:List Frame) (z:Option Nat) (Cn:List ah) (z7 σ:av) (β:Env) (w:World) (m:Machine):Prop :=
 (z=none/\∃β' a' w',Rel X base mb D ⟨Cn,z7⟩ β' a' w'/\Ext lo.n σ β w z7 β' w'/\Steps P m (lone (b.atR a' k) cs w')) \/
  z≠none/\∃u eG β' a' w' k',Q (.panic u) eG/\lo.n<=eG.σ.length/\Rel X base mb D eG β' a' w'/\Ext lo.n σ β w eG.σ β' w'/\Steps P m (lone { b.atR a' k' with mode:=.panicking [{ v:=u,recovered:=false }] } cs w')
theorem o8.of {b:Frame} {k:List Item} {cs:List Frame} {z:Option Nat} {Cn:List ah} {z7 σ σ':av} {β fI:Env} {w w1:World} {m m1:Machine} (he:Ext lo.n σ β w σ' fI w1) (hs:Steps P m m1) (h:o8 P lo Q X base mb D b k cs z Cn z7 σ' fI w1 m1) :
  o8 P lo Q X base mb D b k cs z Cn z7 σ β w m:=by
 rcases h with⟨h0,β',a',w',h1,h2,h3⟩|⟨hz,u,eG,β',a',w',k',h0,Aw,h1,h2,h3⟩
 ·exact .inl ⟨h0,β',a',w',h1,he.trans h2,hs.trans h3⟩
 ·exact .inr ⟨hz,u,eG,β',a',w',k',h0,Aw,h1,he.trans h2,hs.trans h3⟩
theorem Ynu {z:Option Nat} {dd:Nat->Prop} (hz:∀i0,z=some i0->i0<ops.size/\dd i0) (hdd:∀j,dd j->∃i0,z=some i0/\(j=i0\/ku ops i0 j)) (hk:vp ops fs n0 N) (iG:lo.n<=n0) (hN:n0<=N)
  (hT:∀i o,ops[i]? = some o->((pB P ops (dG fs i) o (TM i) (SS i) (TM (i+1)) (SS (i+1))\/z8 P ops.size o (TM i) SS i (TM (i+1))/\(dG fs i).wr=[])\/dd i/\(∃v,TM (i+1)=put (TM i) o.dst v)/\SS (i+1)=SS i)) (FH:∀i,i<=ops.size->(TM i).length=(TM 0).length) (Jw:∀i,i<=ops.size->(SS i).length=N)
  (b:Frame) (k:List Item) (cs:List Frame)
  (hP:∀i o,z=some i->ops[i]? = some o->∀(tm:List ah) (σ:av) (β:Env) (a:Act) (w:World) (rest:List Nat),(∀l,l∈o.looksAt ops->tm.getD l .undef=(TM i).getD l .undef)->nc ops tm o=nc ops (TM i) o->(∀c,c ∉ (dG fs i).hd->σ[c]? = (SS i)[c]?)->σ.length=N->Rel X base mb D ⟨tm,σ⟩ β a w ->
   ∃u eG β' a' w' k',Q (.panic u) eG/\lo.n<=eG.σ.length/\Rel X base mb D eG β' a' w'/\Ext lo.n σ β w eG.σ β' w'/\Steps P (lone (b.atR a (.inRegion ops (i :: rest):: k)) cs w) (lone { b.atR a' k' with mode:=.panicking [{ v:=u,recovered:=false }] } cs w')) :
  ∀(fuel t:Nat) (listed:Array Bool) (tm:List ah) (σ:av) (β:Env) (a:Act) (w:World),listed.size=ops.size->oq listed<=fuel ->
   (∀i j,ku ops i j->listed.getD j false=true->listed.getD i false=true) ->
   ga ops.size (λi l=>∃o,ops[i]? = some o/\o.dst=some l) (λi l=>(TM i).getD l .undef) (λj=>listed.getD j false=true) (λl=>tm.getD l .undef) ->
   ga ops.size (λi c=>c∈(dG fs i).wr) (λi c=>(SS i)[c]?) (λj=>listed.getD j false=true) (λc=>σ[c]?) ->
   tm.length=(TM 0).length->σ.length=N->(∀i c,i<ops.size->listed.getD i false=false->(dG fs i).nm=some c->β c=none)->Rel X base mb D ⟨tm,σ⟩ β a w->(∀j,listed.getD j false=true->¬dd j) ->
   o8 P lo Q X base mb D b k cs z (TM ops.size) (SS ops.size) σ β w (lone (b.atR a (.inRegion ops (Region.linearise.go .any ops fuel t listed []):: k)) cs w):=by
 have C2:∀i l,i<ops.size->¬(∃o,ops[i]? = some o/\o.dst=some l)->(TM (i+1)).getD l .undef=(TM i).getD l .undef:=by
  intro i l hi hn;have ho:ops[i]? = some ops[i]:=aE hi;have j_:∀v,(put (TM i) ops[i].dst v).getD l .undef=(TM i).getD l .undef:=by
   intro v;cases hd:ops[i].dst with
   |none=>rfl
   |some d =>
    have dL:d≠l:=λe=>hn ⟨ops[i],ho,by rw[hd,e]⟩;simp only[put,List.getD,b_ dL]
  rcases hT i _ ho with((⟨_,h,_⟩|⟨_,r,σ1,_,_,h,_⟩) | ⟨⟨_,_,_,_,_,_,_,_,h,_⟩,_⟩) | ⟨_,⟨_,h⟩,_⟩<;>rw[h]<;>exact j_ _
 have AA:∀i c,i<ops.size->¬c∈(dG fs i).wr->(SS (i+1))[c]? = (SS i)[c]?:=by
  intro i c hi hn;have ho:ops[i]? = some ops[i]:=aE hi;rcases hT i _ ho with((⟨_,_,h⟩|⟨_,r,σ1,_,h2,_,h⟩) | ⟨⟨_,_,_,_,_,_,_,_,_,h⟩,_⟩) | ⟨_,_,h⟩
  rotate_right
  ·rw[h]
  rotate_right
  ·rw[h]
  ·rw[h]
  ·rw[h,yk (by rw[BK h2,dW,uj]),br,if_neg hn]
 intro fuel;have finish:∀(listed:Array Bool) (tm:List ah) (σ:av) (β:Env) (a:Act) (w:World),(∀j,j<ops.size->listed.getD j false=true) ->
   ga ops.size (λi l=>∃o,ops[i]? = some o/\o.dst=some l) (λi l=>(TM i).getD l .undef) (λj=>listed.getD j false=true) (λl=>tm.getD l .undef) ->
   ga ops.size (λi c=>c∈(dG fs i).wr) (λi c=>(SS i)[c]?) (λj=>listed.getD j false=true) (λc=>σ[c]?) ->
   tm.length=(TM 0).length->σ.length=N->Rel X base mb D ⟨tm,σ⟩ β a w->(∀j,listed.getD j false=true->¬dd j) ->
   o8 P lo Q X base mb D b k cs z (TM ops.size) (SS ops.size) σ β w (lone (b.atR a (.inRegion ops [] :: k)) cs w):=by
  intro listed tm σ β a w fj i1 i2 l1 l2 hrel tD;have F3:z=none:=by
   cases Dj:z with
   |none=>rfl
   |some i0=>obtain⟨q1,q2⟩:=hz i0 Dj;exact absurd q2 (tD i0 (fj i0 q1))
  have e1:tm=TM ops.size:=by
   apply bZ;intro l;have h1:tm.getD l .undef=(TM ops.size).getD l .undef:=ga.done C2 i1 fj l;have hl:=FH ops.size (ae _);by_cases bx:l<tm.length
   ·have aL:l<(TM ops.size).length:=by omega
    rw[ax bx,ax aL];simp only[List.getD,ax bx,ax aL,bd]at h1;rw[h1]
   ·rw[bB (by omega),bB (by omega)]
  have e2 : σ=SS ops.size:=by
   apply bZ;intro c;exact ga.done AA i2 fj c
  subst e1 e2;exact .inl ⟨F3,β,a,w,hrel,Ext.refl _ _ _ _,.one stepR_region_end⟩
 induction fuel with
 |zero =>
  intro t listed tm σ β a w eM Ba gD i1 i2 l1 l2 vK hrel tD;simp only[Region.linearise.go,mU];exact finish listed tm σ β a w (λj hj=>N8 (by omega) (by omega)) i1 i2 l1 l2 hrel tD
 | succ fuel ih =>
  intro t listed tm σ β a w eM Ba gD i1 i2 l1 l2 vK hrel tD;simp only[Region.linearise.go];change o8 P lo Q X base mb D b k cs z (TM ops.size) (SS ops.size) σ β w (lone (b.atR a (.inRegion ops (match (Region.ready .any ops listed)[t % (Region.ready .any ops listed).length]? with
   |some i=>Region.linearise.go .any ops fuel (t / (Region.ready .any ops listed).length) (listed.setIfInBounds i true) [i]
   |none=>[].reverse):: k)) cs w)
  cases hi:(Region.ready .any ops listed)[t % (Region.ready .any ops listed).length]? with
  | none =>
   have A1:Region.ready .any ops listed=[]:=by
    cases hr:Region.ready .any ops listed with
    |nil=>rfl
    |cons x xs =>
     rw[hr]at hi;have bx:t % (x :: xs).length<(x :: xs).length:=Nat.mod_lt _ (by simp);simp at hi;simp at bx;omega
   refine finish listed tm σ β a w (λj=>?_) i1 i2 l1 l2 hrel tD
   induction j using Nat.strongRecOn with
   | _ j Sg =>
    intro hj;cases hv:listed.getD j false with
    |true=>rfl
    | false =>
     have j0:j∈Region.ready .any ops listed:=mem_ready.2 ⟨by
      have:j<listed.size:=by omega
      simpa[this] using hv,ops[j],aE hj,λe he hb=>by
       have bx:e.on<j:=(ku.edge (aE hj) he hb).lt hk.down;exact Sg e.on bx (by omega)⟩
     rw[A1]at j0;cases j0
  | some i =>
   simp only[];rw[linearise_go_acc,qV,sj];obtain⟨yA,o,ho,fj⟩:=mem_ready.1 (nn hi);have fA:i<ops.size:=(aQ.1 ho).1;have zn:listed.getD i false=false:=by
    have:i<listed.size:=by omega
    simpa[this] using yA
   have sT:¬(listed.getD i false=true):=by rw[zn];simp
   have aD:∀j,ku ops j i->listed.getD j false=true:=by
    intro j hb;generalize dm:i=i' at hb
    induction hb with
    | @edge j' o' e h1 h2 h3 =>
     subst dm;rw[ho]at h1;cases h1;exact fj e h2 h3
    |trans h1 h2 _ qj=>exact gD _ _ h1 (qj dm)
   have wV:∀l,l∈o.looksAt ops\/o.dst=some l->∀j,j<ops.size->j≠i->(∃oj,ops[j]? = some oj/\oj.dst=some l)->ku ops i j\/ku ops j i:=by
    rintro l hl j hj dL ⟨oj,h1,h2⟩;exact hk.tmp i o ho l hl j oj h1 dL h2
   have r7:∀l,l∈o.looksAt ops->tm.getD l .undef=(TM i).getD l .undef:=λl hl=>ga.read hk.down C2 gD i1 fA sT aD (wV l (.inl hl));have yO:∀c,c ∉ (dG fs i).hd->σ[c]? = (SS i)[c]?:=λc hc=>ga.read hk.down AA gD i2 fA sT aD (hk.see i fA c hc);have Rt:=FH i (by omega);have FG:=Jw i (by omega);have wU:dW (dG fs i) σ=dW (dG fs i) (SS i):=by
    apply bZ;intro c;simp only[dW,ym,br];by_cases hc:c∈(dG fs i).hd
    ·have e:(!(dG fs i).hd.contains c)=false:=by simp[hc]
     rw[e];by_cases bx:c<N
     ·rw[ax (l:=σ) (by omega),ax (l:=SS i) (by omega)];rfl
     ·rw[bB (l:=σ) (by omega),bB (l:=SS i) (by omega)]
    ·rw[yO c hc]
   have fe:(dG fs i).name σ=(dG fs i).name (SS i):=by simp only[Fp.name,l2,FG]
   have tA:nc ops tm o=nc ops (TM i) o:=X1 (by omega) r7;have j_:∀(l:Nat) (v:ah),(∃o',ops[i]? = some o'/\o'.dst=some l)->(put tm o.dst v).getD l .undef=(put (TM i) o.dst v).getD l .undef:=by
    rintro l v ⟨o',h1,h2⟩;rw[ho]at h1;cases h1;rw[h2];simp only[put,List.getD,qp];by_cases bx:l<tm.length
    ·rw[ax bx,ax (show l<(TM i).length by omega)];rfl
    ·rw[bB (en bx),bB (show(TM i).length<=l by omega)]
   have tJ:∀(l:Nat) (v:ah),¬(∃o',ops[i]? = some o'/\o'.dst=some l)->(put tm o.dst v).getD l .undef=tm.getD l .undef:=by
    intro l v hn;cases hd:o.dst with
    |none=>rfl
    |some d =>
     have dL:d≠l:=λe=>hn ⟨o,ho,by rw[hd,e]⟩;simp only[put,List.getD,b_ dL]
   have fS:∀j,((listed.setIfInBounds i true).getD j false=true)↔(listed.getD j false=true\/j=i):=by
    intro j;constructor
    ·intro h;by_cases e:i=j
     ·exact .inr e.symm
     ·rw[s_ false e]at h;exact .inl h
    ·rintro(h|rfl)
     ·exact getD_set_true h
     ·have:j<listed.size:=by omega
      simp[this]
   have Ax:(λj=>(listed.setIfInBounds i true).getD j false=true)=λj=>listed.getD j false=true\/j=i:=funext λj=>propext (fS j);have xH:∀i' j,ku ops i' j->(listed.setIfInBounds i true).getD j false=true->(listed.setIfInBounds i true).getD i' false=true:=by
    intro i' j hb hj;rw[fS]at hj ⊢;rcases hj with hj|rfl
    ·exact .inl (gD i' j hb hj)
    ·exact .inl (aD i' hb)
   have Fo:=hT i o ho;by_cases Fu:dd i
   ·obtain⟨i0,F4,yv⟩:=hdd i Fu;rcases yv with rfl|hb
    ·exact .inr ⟨by rw[F4];simp,hP i o F4 ho tm σ β a w _ r7 tA yO l2 hrel⟩
    ·exact absurd (hz i0 F4).2 (tD i0 (aD i0 hb))
   have Fo:=Fo.resolve_right λh=>Fu h.1;generalize tL:Region.linearise.go .any ops fuel (t / (Region.ready .any ops listed).length) (listed.setIfInBounds i true) []=rest;have step:∃kC σ' fI a1 w1,Rel X base mb D ⟨kC,σ'⟩ fI a1 w1/\Ext 0 σ β w σ' fI w1/\(∀c,c≠(dG fs i).name σ->c < σ.length->fI c = β c)/\kC.length=tm.length/\σ'.length = σ.length /\
     (∀l,(∃o',ops[i]? = some o'/\o'.dst=some l)->kC.getD l .undef=(TM (i+1)).getD l .undef)/\(∀l,¬(∃o',ops[i]? = some o'/\o'.dst=some l)->kC.getD l .undef=tm.getD l .undef) /\
     (∀c,c∈(dG fs i).wr->σ'[c]? = (SS (i+1))[c]?)/\(∀c,c ∉ (dG fs i).wr->σ'[c]? = σ[c]?) /\
     Steps P (lone (b.atR a (.inRegion ops (i :: rest):: k)) cs w) (lone (b.atR a1 (.inRegion ops rest :: k)) cs w1):=by
    rcases Fo with(⟨g1,g2,g3⟩|⟨g1,r,σ1,g2,g3,g4,g5⟩) | ⟨⟨g1,t0,x0,l0,r,g2,g3,g4,g5,g6⟩,g7⟩
    rotate_right
    ·have wb:nc ops tm o=some true:=by unfold nc;rw[g1]
     have hx:ev tm x0=ev (TM i) x0:=Lo r7 x0 (by rw[g2];simp[Op.operands]);obtain⟨b0,ur⟩:=Yr l0 (ev (TM i) x0);obtain⟨k0,wR,lJ⟩:=i2.some b0;have tD:jW σ l0 (ev tm x0)=some r:=by rw[hx,ur σ (SS k0) lJ];exact g4 k0 wR
     have Fv:l7 P o.op tm (dW Fp.no σ) (Fp.no.name σ) r σ:=by
      have uX:dW Fp.no σ = σ:=by
       apply bZ;intro c;simp only[dW,ym,br,Fp.no];cases σ[c]?<;>rfl
      rw[uX,g2];simp only[l7,dJ,g3,fq,tD,bD]
     have sV:fG Fp.no.wr 0 σ (dW Fp.no σ):=by
      have uX:dW Fp.no σ = σ:=by
       apply bZ;intro c;simp only[dW,ym,br,Fp.no];cases σ[c]?<;>rfl
      rw[uX];have:∀(i:Nat) (a:av),fG Fp.no.wr i a a:=λi a=>by
       induction a generalizing i with
       |nil=>trivial
       |cons x a ih=>exact⟨.inr rfl,ih _⟩
      exact this 0 σ
     obtain⟨fI,a1,w1,q1,q2,q3,q4⟩:=l7.step (rest:=rest) hrel ho wb Fv sV (λc hc=>by simp[Fp.no]at hc) (hrel.s.o_ _ (ae _)) b k cs;have Rz:ew Fp.no.wr 0 σ σ = σ:=by
      apply bZ;intro c;rw[yk rfl];split<;>rfl
     rw[Rz]at q1 q2;refine⟨_,σ,fI,a1,w1,q1,q2,λc _ hc=>q3 c (by simp only[Fp.name,Fp.no,dD];omega) hc,BH _ _ _,rfl,λl hl=>by rw[g5];exact j_ l _ hl,λl hl=>tJ l _ hl,λc hc=>?_,λ_ _=>rfl,q4⟩;rw[g7]at hc;cases hc
    ·have hw:=Cp hrel (tA.trans g1);refine⟨put tm o.dst gone,σ,β,a.put o.dst undef,w,hrel.next hrel.s (Ext.refl 0 _ _ _) (λ_ _ h=>h) (.qf _) o.dst,Ext.refl _ _ _ _,λ_ _ _=>rfl,BH _ _ _,rfl,
      λl hl=>by rw[g2];exact j_ l _ hl,λl hl=>tJ l _ hl,λc hc=>?_,λ_ _=>rfl,?_⟩
     ·rw[g3];exact ga.read hk.down AA gD i2 fA sT aD (hk.own i fA c hc).2.2
     ·have:=stepR_op_skip (P:=P) (b:=b) (a:=a) (ops:=ops) (i:=i) (rest:=rest) (k:=k) (cs:=cs) (w:=w) (by simp[ho,hw]);rw[ho]at this;exact .one this
    ·have Fv:l7 P o.op tm (dW (dG fs i) σ) ((dG fs i).name σ) r σ1:=by
      rw[wU,fe];exact g2.congr (Lo r7)
     have sV:fG (dG fs i).wr 0 σ1 (dW (dG fs i) σ):=by rw[wU];exact g3
     have A2 : β ((dG fs i).name σ)=none:=by
      unfold Fp.name;cases hn:(dG fs i).nm with
      |none=>exact hrel.s.o_ _ (ae _)
      |some c=>exact vK i c fA zn hn
     have uW : σ1.length = σ.length:=by rw[BK sV,dW,uj]
     have FF : σ1.length=(SS i).length:=by omega
     obtain⟨fI,a1,w1,q1,q2,q3,q4⟩:=l7.step (rest:=rest) hrel ho (tA.trans g1) Fv sV (λc hc=>(hk.own i fA c hc).2.1) A2 b k cs;refine⟨_,_,fI,a1,w1,q1,q2,q3,BH _ _ _,KO uW,λl hl=>by rw[g4];exact j_ l _ hl,λl hl=>tJ l _ hl,λc hc=>?_,λc hc=>?_,q4⟩
     ·rw[g5,yk uW,yk FF,br,if_pos hc,if_pos hc]
     ·rw[yk uW,br,if_neg hc]
   obtain ⟨kC,σ',fI,a1,w1,s1,s2,s3,s4,s5,s6,s7,s8,s9,SA⟩:=step;have ow:=ih (t / (Region.ready .any ops listed).length) (listed.setIfInBounds i true) kC σ' fI a1 w1 (by simp[eM]) (by have:=Le yA;omega) xH
    (by rw[Ax];exact ga.step hk.down gD i1 fA sT (λl hl=>wV l (.inr (by obtain⟨o',h1,h2⟩:=hl;rw[ho]at h1;cases h1;exact h2))) s6 s7)
    (by rw[Ax];exact ga.step hk.down gD i2 fA sT (λc hc=>(hk.own i fA c hc).2.2) s8 s9)
    (by omega) (by omega)
    (fun j c hj zU JH=>by
     have Eg:j≠i:=λe=>by rw[e]at zU;have:=(fS i).2 (.inr rfl);rw[this]at zU;cases zU
     have FI:listed.getD j false=false:=by rw[s_ false (gV Eg)]at zU;exact zU
     obtain⟨m1,m2,m3⟩:=hk.Gd j hj c JH;rw[s3 c ?_ (by omega)]
     ·exact vK j c hj FI JH
     ·unfold Fp.name;cases hn:(dG fs i).nm with
      |none=>simp only[dD];omega
      |some c'=>exact λe=>m3 i fA (gV Eg) (by rw[hn,e];rfl)) s1
    (λj hj=>by rcases(fS j).1 hj with h|rfl;exact tD j h;exact Fu)
   rw[tL]at ow;have lg:Ext lo.n σ β w σ' fI w1:=⟨s2.os,s2.tape,s2.output,s2.size,s2.cell,s2.block,s2.jq,λc hc=>s3 c (by
    unfold Fp.name;cases hn:(dG fs i).nm with
    |none=>simp only[dD];omega
    |some c'=>have:=(hk.Gd i fA c' hn).1;simp only[bd];omega) (by omega)⟩
   exact ow.of lg SA
theorem Yi9 (hk:vp ops fs n0 N) (iG:lo.n<=n0) (hN:n0<=N) (hT:∀i o,ops[i]? = some o->pB P ops (dG fs i) o (TM i) (SS i) (TM (i+1)) (SS (i+1))\/z8 P ops.size o (TM i) SS i (TM (i+1))/\(dG fs i).wr=[]) (FH:∀i,i<=ops.size->(TM i).length=(TM 0).length) (Jw:∀i,i<=ops.size->(SS i).length=N)
  (b:Frame) (k:List Item) (cs:List Frame) (fuel t:Nat) (listed:Array Bool) (tm:List ah) (σ:av) (β:Env) (a:Act) (w:World) (h1:listed.size=ops.size) (h2:oq listed<=fuel)
  (h3:∀i j,ku ops i j->listed.getD j false=true->listed.getD i false=true)
  (h4:ga ops.size (λi l=>∃o,ops[i]? = some o/\o.dst=some l) (λi l=>(TM i).getD l .undef) (λj=>listed.getD j false=true) (λl=>tm.getD l .undef))
  (h5:ga ops.size (λi c=>c∈(dG fs i).wr) (λi c=>(SS i)[c]?) (λj=>listed.getD j false=true) (λc=>σ[c]?))
  (h6:tm.length=(TM 0).length) (h7 : σ.length=N) (h8:∀i c,i<ops.size->listed.getD i false=false->(dG fs i).nm=some c->β c=none) (h9:Rel X base mb D ⟨tm,σ⟩ β a w) :
   ∃β' a' w',Rel X base mb D ⟨TM ops.size,SS ops.size⟩ β' a' w'/\Ext lo.n σ β w (SS ops.size) β' w' /\
    Steps P (lone (b.atR a (.inRegion ops (Region.linearise.go .any ops fuel t listed []):: k)) cs w) (lone (b.atR a' k) cs w'):=by
 rcases Ynu (lo:=lo) (Q:=λ_ _=>False) (z:=none) (dd:=λ_=>False) (λ_ h=>by cases h) (λ_ h=>h.elim) hk iG hN (λi o hi=>.inl (hT i o hi)) FH Jw b k cs (λ_ _ h=>by cases h) fuel t listed tm σ β a w h1 h2 h3 h4 h5 h6 h7 h8 h9 (λ_ _ h=>h) with⟨_,h⟩|⟨h,_⟩
 ·exact h
 ·exact absurd rfl h
theorem aC.draw {k:List KI} {id:Nat} {tm:List ah} {σ:av} (fs:List Fp) (n0 N:Nat) (hm:P.follows .mixedOrders=true) (jB:rj ops fs n0 N=true) (h0 : σ.length=n0) (hN:n0<=N) (h:iw P lo Q k ops ops.toList fs tm (cM N σ)) :
  aC P lo Q (.code (.region id ops true):: k) .normal ⟨tm,σ⟩:=by
 have hk:=Nx jB;obtain⟨TM,SS,e1,e2,e3,e4⟩:=Gy _ _ _ _ h;have hlen:ops.toList.length=ops.size:=by simp
 rw [hlen]at e4;have hT:∀i o,ops[i]? = some o->pB P ops (dG fs i) o (TM i) (SS i) (TM (i+1)) (SS (i+1)):=λi o hi=>e3 i o (by simpa using hi);have hl:∀i,i<=ops.size->(TM i).length=(TM 0).length/\(SS i).length=N:=by
  intro i
  induction i with
  |zero=>intro _;exact⟨rfl,by rw[e2,Ln (by omega)]⟩
  |succ i ih =>
   intro hi;have:=(hT i ops[i] (aE (by omega))).len;have:=ih (by omega);omega
 intro X base mb D β a w b kk cs h1 h2 h3 _;simp only at h1;have hrel:Rel X base mb D ⟨TM 0,SS 0⟩ β a { w with drawn:=w.drawn+1 }:=by
  have:=OE (n:=w.drawn+1) h3;rw[e1,e2];exact⟨this.s.pad (by simp only;omega),this.n,λj hj=>by rw[Ko];exact this.t j hj,this.d⟩
 obtain ⟨β',a',w',r1,r2,r3⟩:=Yi9 (lo:=lo) hk (by omega) hN (λi o hi=>.inl (hT i o hi)) (λi hi=>(hl i hi).1) (λi hi=>(hl i hi).2) b kk cs ops.size (w.tape w.drawn (.order b.fn id)) (Array.replicate ops.size false) (TM 0) (SS 0) β a { w with drawn:=w.drawn+1 } (by simp)
  (by simp[oq]) (λi j _ hj=>by simp[au,de]at hj;split at hj<;>simp at hj)
  (by
   have:(λj=>(Array.replicate ops.size false).getD j false=true)=λ_=>False:=funext λj=>by simp[au,de];split<;>simp
   rw[this];exact ga.init)
  (by
   have:(λj=>(Array.replicate ops.size false).getD j false=true)=λ_=>False:=funext λj=>by simp[au,de];split<;>simp
   rw[this];exact ga.init)
  rfl (hl 0 (aj _)).2 (λi c hi _ hc=>h3.s.o_ c (by simp only;have:=(hk.Gd i hi c hc).1;omega)) hrel
 rw[e2]at r2;refine⟨.normal,⟨TM ops.size,SS ops.size⟩,β',a',w',e4,?_,r1,?_,.head stepR_region_draw ?_⟩
 ·have:=(hl ops.size (ae _)).2;simp only;omega
 ·exact⟨r2.os,r2.tape,r2.output,r2.size,λg o v hc hn=>r2.cell g o v hc λhm=>hn (BT.1 hm),λg hg hn=>r2.block g hg λo hm=>hn o (BT.1 hm),λg o hm=>(r2.jq g o hm).imp BT.1 (λh=>h),r2.env⟩
 ·have hs:Region.schedule (P.follows .mixedOrders) ops (w.tape w.drawn (.order b.fn id))=Region.linearise.go .any ops ops.size (w.tape w.drawn (.order b.fn id)) (Array.replicate ops.size false) []:=by
   simp only[Region.schedule,hm,dE,if_true];rfl
  rw[hs];exact r3
end
end Go.dq
