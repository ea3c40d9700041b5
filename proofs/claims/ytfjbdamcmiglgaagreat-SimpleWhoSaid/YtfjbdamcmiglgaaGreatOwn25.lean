/- Part 25 of my own framework and of the walks of functions: AbsZ. -/
import Derived.Test.YtfjbdamcmiglgaaGreatOwn24
abbrev dW:=@Array.getElem?_replicate
abbrev fH:=@Bool.true_or
abbrev qn:=@Go.getD_set_ne
abbrev oF:=@List.getElem?_set_self'
abbrev lN:=@List.mem_of_getElem?
abbrev lE:=@List.reverse_nil
abbrev o_:=@List.reverse_singleton
abbrev p0:=@List.singleton_append
abbrev ep:=@Option.getD_none
set_option linter.unusedVariables false
set_option linter.unusedSectionVars false
set_option linter.unusedSimpArgs false
namespace Go.c8
open Go
def nj (listed:Array Bool):Nat:=listed.toList.count false
theorem HF {listed:Array Bool} {i:Nat} (h:listed.getD i true=false):nj (listed.setIfInBounds i true)+1=nj listed:=by
 have hi:i<listed.size:=by
  refine ju fun hle=>?_
  simp [Array.getElem?_eq_none hle] at h
 have hv:listed.toList[i]'(by simpa using hi)=false:=by simpa [hi] using h
 simp only [nj,Array.toList_setIfInBounds]
 rw [List.count_set (by simpa using hi),hv]
 have : 0<listed.toList.count false:=List.count_pos_iff.2 (hv ▸ aE _)
 rw [show (true==false)=false from rfl]
 simp only [beq_self_eq_true,if_true,a8,if_false]
 omega
theorem JQ {listed:Array Bool} (h:nj listed=0) {j:Nat} (hj:j<listed.size):listed.getD j false=true:=by
 have:false ∉ listed.toList:=List.count_eq_zero.1 h
 cases hv:listed[j] with
 | true=>simp [hj,hv]
 | false=>exact absurd (by rw [← hv];simp) this
theorem fI.some {V:Type} {m:Nat} {wr:Nat→Nat→Prop} {S:Nat→Nat→V} {D:Nat→Prop} {s:Nat→V} (h:fI m wr S D s) (l:Nat):∃ k,k≤m∧s l=S k l:=by
 rcases JO (wr:=fun j l=>D j∧wr j l) l m with h1 | ⟨j,h1,⟨h2,uG⟩,h3⟩
 ·exact ⟨0,av _,(h l).1 fun j hj uV hw=>h1 j hj ⟨uV,hw⟩⟩
 ·exact ⟨j+1,h1,(h l).2 j h1 h2 uG fun j' rr L4 wV=>dN fun bD=>h3 j' bD rr ⟨L4,wV⟩⟩
theorem SF (l:eF) (p:ae):∃ b:Nat, ∀ σ σ':ai,σ[b]? = σ'[b]?→iS σ l p=iS σ' l p:=by
 cases p with
 | ptr b off=>exact ⟨b,fun σ σ' h=>by simp only [iS,bG,h]⟩
 | rp b i f=>exact ⟨b,fun σ σ' h=>by simp only [iS,bG,h]⟩
 | _=>exact ⟨0,fun _ _ _=>rfl⟩
def xx (P:Program) (m:Nat) (o:Oper) (tm:List ae) (SS:Nat→ai) (i:Nat) (jE:List ae):Prop :=
 o.guard=none∧∃ t x l r,o.op = .load t x∧aC P t=some l∧(∀ k,k≤m→iS (SS k) l (ev tm x)=some r)∧jE=put tm o.dst r∧SS (i+1)=SS i
section
variable {P:Program} {lo:Ctx} {Q:b9→St→Prop} {ops:Array Oper} {fs:List Fp} {n0 N:Nat} {TM:Nat→List ae} {SS:Nat→ai} {X:Nat→Nat→Prop} {base mb:Nat} {D:List Deferred}
def nr (P:Program) (lo:Ctx) (Q:b9→St→Prop) (X:Nat→Nat→Prop) (base mb:Nat) (D:List Deferred) (b:Frame) (k:List Item) (cs:List Frame) (z:Option Nat) (zz:List ae) (xw σ:ai) (β:Env) (w:World) (m:Machine):Prop :=
 (z=none∧∃ β' a' w',Rel X base mb D ⟨zz,xw⟩ β' a' w'∧Ext lo.n σ β w xw β' w'∧Steps P m (lone (b.atR a' k) cs w')) ∨
  z≠none∧∃ u dV β' a' w' k',Q (.panic u) dV∧lo.n≤dV.σ.length∧Rel X base mb D dV β' a' w'∧Ext lo.n σ β w dV.σ β' w'∧Steps P m (lone { b.atR a' k' with mode:=.panicking [{ v:=u,recovered:=false }] } cs w')
theorem nr.of {b:Frame} {k:List Item} {cs:List Frame} {z:Option Nat} {zz:List ae} {xw σ σ':ai} {β eO:Env} {w w1:World} {m m1:Machine} (he:Ext lo.n σ β w σ' eO w1) (hs:Steps P m m1) (h:nr P lo Q X base mb D b k cs z zz xw σ' eO w1 m1) :
  nr P lo Q X base mb D b k cs z zz xw σ β w m:=by
 rcases h with ⟨h0,β',a',w',h1,h2,h3⟩ | ⟨hz,u,dV,β',a',w',k',h0,LU,h1,h2,h3⟩
 ·exact .inl ⟨h0,β',a',w',h1,he.trans h2,hs.trans h3⟩
 ·exact .inr ⟨hz,u,dV,β',a',w',k',h0,LU,h1,he.trans h2,hs.trans h3⟩
theorem Ym4 {z:Option Nat} {dd:Nat→Prop} (hz:∀ i0,z=some i0→i0<ops.size∧dd i0) (hdd:∀ j,dd j→∃ i0,z=some i0∧(j=i0∨j6 ops i0 j)) (hk:sj ops fs n0 N) (iJ:lo.n≤n0) (hN:n0≤N)
  (hT:∀ i o,ops[i]? = some o→((pN P ops (dq fs i) o (TM i) (SS i) (TM (i+1)) (SS (i+1))∨xx P ops.size o (TM i) SS i (TM (i+1))∧(dq fs i).wr=[])∨dd i∧(∃ v,TM (i+1)=put (TM i) o.dst v)∧SS (i+1)=SS i)) (CX:∀ i,i≤ops.size→(TM i).length=(TM 0).length) (Gm:∀ i,i≤ops.size→(SS i).length=N)
  (b:Frame) (k:List Item) (cs:List Frame)
  (hP:∀ i o,z=some i→ops[i]? = some o→∀ (tm:List ae) (σ:ai) (β:Env) (a:Act) (w:World) (rest:List Nat),(∀ l,l∈o.looksAt ops→tm.getD l .undef=(TM i).getD l .undef)→mc ops tm o=mc ops (TM i) o→(∀ c,c ∉ (dq fs i).hd→σ[c]? = (SS i)[c]?)→σ.length=N→Rel X base mb D ⟨tm,σ⟩ β a w →
   ∃ u dV β' a' w' k',Q (.panic u) dV∧lo.n≤dV.σ.length∧Rel X base mb D dV β' a' w'∧Ext lo.n σ β w dV.σ β' w'∧Steps P (lone (b.atR a (.inRegion ops (i :: rest) :: k)) cs w) (lone { b.atR a' k' with mode:=.panicking [{ v:=u,recovered:=false }] } cs w')) :
  ∀ (fuel t:Nat) (listed:Array Bool) (tm:List ae) (σ:ai) (β:Env) (a:Act) (w:World),listed.size=ops.size→nj listed≤fuel →
   (∀ i j,j6 ops i j→listed.getD j false=true→listed.getD i false=true) →
   fI ops.size (fun i l=>∃ o,ops[i]? = some o∧o.dst=some l) (fun i l=>(TM i).getD l .undef) (fun j=>listed.getD j false=true) (fun l=>tm.getD l .undef) →
   fI ops.size (fun i c=>c∈(dq fs i).wr) (fun i c=>(SS i)[c]?) (fun j=>listed.getD j false=true) (fun c=>σ[c]?) →
   tm.length=(TM 0).length→σ.length=N→(∀ i c,i<ops.size→listed.getD i false=false→(dq fs i).nm=some c→β c=none)→Rel X base mb D ⟨tm,σ⟩ β a w→(∀ j,listed.getD j false=true→¬ dd j) →
   nr P lo Q X base mb D b k cs z (TM ops.size) (SS ops.size) σ β w (lone (b.atR a (.inRegion ops (Region.linearise.go .any ops fuel t listed []) :: k)) cs w):=by
 have CG:∀ i l,i<ops.size→¬ (∃ o,ops[i]? = some o∧o.dst=some l)→(TM (i+1)).getD l .undef=(TM i).getD l .undef:=by
  intro i l hi hn
  have ho:ops[i]? = some ops[i]:=aB hi
  have lU:∀ v,(put (TM i) ops[i].dst v).getD l .undef=(TM i).getD l .undef:=by
   intro v
   cases hd:ops[i].dst with
   | none=>rfl
   | some d =>
    have eg:d≠l:=fun e=>hn ⟨ops[i],ho,by rw [hd,e]⟩
    simp only [put,List.getD,bL eg]
  rcases hT i _ ho with ((⟨_,h,_⟩ | ⟨_,r,dg,_,_,h,_⟩) | ⟨⟨_,_,_,_,_,_,_,_,h,_⟩,_⟩) | ⟨_,⟨_,h⟩,_⟩<;>rw [h]<;>exact lU _
 have Ag:∀ i c,i<ops.size→¬ c∈(dq fs i).wr→(SS (i+1))[c]? = (SS i)[c]?:=by
  intro i c hi hn
  have ho:ops[i]? = some ops[i]:=aB hi
  rcases hT i _ ho with ((⟨_,_,h⟩ | ⟨_,r,dg,_,h2,_,h⟩) | ⟨⟨_,_,_,_,_,_,_,_,_,h⟩,_⟩) | ⟨_,_,h⟩
  rotate_right
  ·rw [h]
  rotate_right
  ·rw [h]
  ·rw [h]
  ·rw [h,wx (by rw [zI h2,dv,rA]),bm,if_neg hn]
 intro fuel
 have finish:∀ (listed:Array Bool) (tm:List ae) (σ:ai) (β:Env) (a:Act) (w:World),(∀ j,j<ops.size→listed.getD j false=true) →
   fI ops.size (fun i l=>∃ o,ops[i]? = some o∧o.dst=some l) (fun i l=>(TM i).getD l .undef) (fun j=>listed.getD j false=true) (fun l=>tm.getD l .undef) →
   fI ops.size (fun i c=>c∈(dq fs i).wr) (fun i c=>(SS i)[c]?) (fun j=>listed.getD j false=true) (fun c=>σ[c]?) →
   tm.length=(TM 0).length→σ.length=N→Rel X base mb D ⟨tm,σ⟩ β a w→(∀ j,listed.getD j false=true→¬ dd j) →
   nr P lo Q X base mb D b k cs z (TM ops.size) (SS ops.size) σ β w (lone (b.atR a (.inRegion ops [] :: k)) cs w):=by
  intro listed tm σ β a w eK i1 i2 l1 l2 hrel qH
  have GM:z=none:=by
   cases AE:z with
   | none=>rfl
   | some i0=>obtain ⟨q1,q2⟩:=hz i0 AE;exact absurd q2 (qH i0 (eK i0 q1))
  have e1:tm=TM ops.size:=by
   apply bP
   intro l
   have h1:tm.getD l .undef=(TM ops.size).getD l .undef:=fI.done CG i1 eK l
   have hl:=CX ops.size (ah _)
   by_cases bD:l<tm.length
   ·have aZ:l<(TM ops.size).length:=by omega
    rw [aA bD,aA aZ]
    simp only [List.getD,aA bD,aA aZ,br] at h1
    rw [h1]
   ·rw [bq (by omega),bq (by omega)]
  have e2 : σ=SS ops.size:=by
   apply bP
   intro c
   exact fI.done Ag i2 eK c
  subst e1 e2
  exact .inl ⟨GM,β,a,w,hrel,Ext.refl _ _ _ _, .one stepR_region_end⟩
 induction fuel with
 | zero =>
  intro t listed tm σ β a w fF yp gf i1 i2 l1 l2 sC hrel qH
  simp only [Region.linearise.go,lE]
  exact finish listed tm σ β a w (fun j hj=>JQ (by omega) (by omega)) i1 i2 l1 l2 hrel qH
 | succ fuel ih =>
  intro t listed tm σ β a w fF yp gf i1 i2 l1 l2 sC hrel qH
  simp only [Region.linearise.go]
  change nr P lo Q X base mb D b k cs z (TM ops.size) (SS ops.size) σ β w (lone (b.atR a (.inRegion ops (match (Region.ready .any ops listed)[t % (Region.ready .any ops listed).length]? with
   | some i=>Region.linearise.go .any ops fuel (t / (Region.ready .any ops listed).length) (listed.setIfInBounds i true) [i]
   | none=>[].reverse) :: k)) cs w)
  cases hi:(Region.ready .any ops listed)[t % (Region.ready .any ops listed).length]? with
  | none =>
   have yh:Region.ready .any ops listed=[]:=by
    cases hr:Region.ready .any ops listed with
    | nil=>rfl
    | cons x xs =>
     rw [hr] at hi
     have bD:t % (x :: xs).length<(x :: xs).length:=Nat.mod_lt _ (by simp)
     simp at hi
     simp at bD
     omega
   refine finish listed tm σ β a w (fun j=>?_) i1 i2 l1 l2 hrel qH
   induction j using Nat.strongRecOn with
   | _ j ND =>
    intro hj
    cases hv:listed.getD j false with
    | true=>rfl
    | false =>
     have jx:j∈Region.ready .any ops listed:=mem_ready.2 ⟨by
      have:j<listed.size:=by omega
      simpa [this] using hv,ops[j],aB hj,fun e he hb=>by
       have bD:e.on<j:=(j6.edge (aB hj) he hb).lt hk.down
       exact ND e.on bD (by omega)⟩
     rw [yh] at jx;cases jx
  | some i =>
   simp only []
   rw [linearise_go_acc,o_,p0]
   obtain ⟨Az,o,ho,eK⟩:=mem_ready.1 (lN hi)
   have fp:i<ops.size:=(aL.1 ho).1
   have wU:listed.getD i false=false:=by
    have:i<listed.size:=by omega
    simpa [this] using Az
   have rF:¬ (listed.getD i false=true):=by rw [wU];simp
   have aP:∀ j,j6 ops j i→listed.getD j false=true:=by
    intro j hb
    generalize dP:i=i' at hb
    induction hb with
    | @edge j' o' e h1 h2 h3 =>
     subst dP
     rw [ho] at h1;cases h1
     exact eK e h2 h3
    | trans h1 h2 _ oA=>exact gf _ _ h1 (oA dP)
   have tY:∀ l,l∈o.looksAt ops∨o.dst=some l→∀ j,j<ops.size→j≠i→(∃ oj,ops[j]? = some oj∧oj.dst=some l)→j6 ops i j∨j6 ops j i:=by
    rintro l hl j hj eg ⟨oj,h1,h2⟩
    exact hk.tmp i o ho l hl j oj h1 eg h2
   have pQ:∀ l,l∈o.looksAt ops→tm.getD l .undef=(TM i).getD l .undef:=fun l hl=>fI.read hk.down CG gf i1 fp rF aP (tY l (.inl hl))
   have wm:∀ c,c ∉ (dq fs i).hd→σ[c]? = (SS i)[c]?:=fun c hc=>fI.read hk.down Ag gf i2 fp rF aP (hk.see i fp c hc)
   have MO:=CX i (by omega)
   have CW:=Gm i (by omega)
   have tX:dv (dq fs i) σ=dv (dq fs i) (SS i):=by
    apply bP
    intro c
    simp only [dv,vO,bm]
    by_cases hc:c∈(dq fs i).hd
    ·have e:(!(dq fs i).hd.contains c)=false:=by simp [hc]
     rw [e]
     by_cases bD:c<N
     ·rw [aA (l:=σ) (by omega),aA (l:=SS i) (by omega)];rfl
     ·rw [bq (l:=σ) (by omega),bq (l:=SS i) (by omega)]
    ·rw [wm c hc]
   have eA:(dq fs i).name σ=(dq fs i).name (SS i):=by simp only [Fp.name,l2,CW]
   have vU:mc ops tm o=mc ops (TM i) o:=RZ (by omega) pQ
   have lU:∀ (l:Nat) (v:ae),(∃ o',ops[i]? = some o'∧o'.dst=some l)→(put tm o.dst v).getD l .undef=(put (TM i) o.dst v).getD l .undef:=by
    rintro l v ⟨o',h1,h2⟩
    rw [ho] at h1;cases h1
    rw [h2]
    simp only [put,List.getD,oF]
    by_cases bD:l<tm.length
    ·rw [aA bD,aA (show l<(TM i).length by omega)];rfl
    ·rw [bq (dN bD),bq (show (TM i).length≤l by omega)]
   have qM:∀ (l:Nat) (v:ae), ¬ (∃ o',ops[i]? = some o'∧o'.dst=some l)→(put tm o.dst v).getD l .undef=tm.getD l .undef:=by
    intro l v hn
    cases hd:o.dst with
    | none=>rfl
    | some d =>
     have eg:d≠l:=fun e=>hn ⟨o,ho,by rw [hd,e]⟩
     simp only [put,List.getD,bL eg]
   have hO:∀ j,((listed.setIfInBounds i true).getD j false=true)↔(listed.getD j false=true∨j=i):=by
    intro j
    constructor
    ·intro h
     by_cases e:i=j
     ·exact .inr e.symm
     ·rw [qn false e] at h;exact .inl h
    ·rintro (h | rfl)
     ·exact getD_set_true h
     ·have:j<listed.size:=by omega
      simp [this]
   have xN:(fun j=>(listed.setIfInBounds i true).getD j false=true)=fun j=>listed.getD j false=true∨j=i:=funext fun j=>propext (hO j)
   have uY:∀ i' j,j6 ops i' j→(listed.setIfInBounds i true).getD j false=true→(listed.setIfInBounds i true).getD i' false=true:=by
    intro i' j hb hj
    rw [hO] at hj ⊢
    rcases hj with hj | rfl
    ·exact .inl (gf i' j hb hj)
    ·exact .inl (aP i' hb)
   have CH:=hT i o ho
   by_cases CK:dd i
   ·obtain ⟨i0,Dh,zj⟩:=hdd i CK
    rcases zj with rfl | hb
    ·exact .inr ⟨by rw [Dh];simp,hP i o Dh ho tm σ β a w _ pQ vU wm l2 hrel⟩
    ·exact absurd (hz i0 Dh).2 (qH i0 (aP i0 hb))
   have CH:=CH.resolve_right fun h=>CK h.1
   generalize tZ:Region.linearise.go .any ops fuel (t / (Region.ready .any ops listed).length) (listed.setIfInBounds i true) []=rest
   have step:∃ jE σ' eO a1 w1,Rel X base mb D ⟨jE,σ'⟩ eO a1 w1∧Ext 0 σ β w σ' eO w1∧(∀ c,c≠(dq fs i).name σ→c < σ.length→eO c = β c)∧jE.length=tm.length∧σ'.length = σ.length ∧
     (∀ l,(∃ o',ops[i]? = some o'∧o'.dst=some l)→jE.getD l .undef=(TM (i+1)).getD l .undef)∧(∀ l, ¬ (∃ o',ops[i]? = some o'∧o'.dst=some l)→jE.getD l .undef=tm.getD l .undef) ∧
     (∀ c,c∈(dq fs i).wr→σ'[c]? = (SS (i+1))[c]?)∧(∀ c,c ∉ (dq fs i).wr→σ'[c]? = σ[c]?) ∧
     Steps P (lone (b.atR a (.inRegion ops (i :: rest) :: k)) cs w) (lone (b.atR a1 (.inRegion ops rest :: k)) cs w1):=by
    rcases CH with (⟨g1,g2,g3⟩ | ⟨g1,r,dg,g2,g3,g4,g5⟩) | ⟨⟨g1,t0,x0,l0,r,g2,g3,g4,g5,g6⟩,g7⟩
    rotate_right
    ·have Ak:mc ops tm o=some true:=by unfold mc;rw [g1]
     have hx:ev tm x0=ev (TM i) x0:=H7 pQ x0 (by rw [g2];simp [Op.operands])
     obtain ⟨b0,xl⟩:=SF l0 (ev (TM i) x0)
     obtain ⟨k0,CS,nH⟩:=i2.some b0
     have qH:iS σ l0 (ev tm x0)=some r:=by rw [hx,xl σ (SS k0) nH];exact g4 k0 CS
     have CL:kE P o.op tm (dv Fp.no σ) (Fp.no.name σ) r σ:=by
      have rV:dv Fp.no σ = σ:=by
       apply bP
       intro c
       simp only [dv,vO,bm,Fp.no]
       cases σ[c]?<;>rfl
      rw [rV,g2]
      simp only [kE,cY,g3,eo,qH,bu]
     have sE:eT Fp.no.wr 0 σ (dv Fp.no σ):=by
      have rV:dv Fp.no σ = σ:=by
       apply bP
       intro c
       simp only [dv,vO,bm,Fp.no]
       cases σ[c]?<;>rfl
      rw [rV]
      have:∀ (i:Nat) (a:ai),eT Fp.no.wr i a a:=fun i a=>by
       induction a generalizing i with
       | nil=>trivial
       | cons x a ih=>exact ⟨.inr rfl,ih _⟩
      exact this 0 σ
     obtain ⟨eO,a1,w1,q1,q2,q3,q4⟩:=kE.step (rest:=rest) hrel ho Ak CL sE (fun c hc=>by simp [Fp.no] at hc) (hrel.s.nA _ (ah _)) b k cs
     have MV:dB Fp.no.wr 0 σ σ = σ:=by
      apply bP
      intro c
      rw [wx rfl];split<;>rfl
     rw [MV] at q1 q2
     refine ⟨_,σ,eO,a1,w1,q1,q2,fun c _ hc=>q3 c (by simp only [Fp.name,Fp.no,ep];omega) hc,yW _ _ _,rfl,fun l hl=>by rw [g5];exact lU l _ hl,fun l hl=>qM l _ hl,fun c hc=>?_,fun _ _=>rfl,q4⟩
     rw [g7] at hc;cases hc
    ·have hw:=zB hrel (vU.trans g1)
     refine ⟨put tm o.dst gone,σ,β,a.put o.dst undef,w,hrel.next hrel.s (Ext.refl 0 _ _ _) (fun _ _ h=>h) (.nL _) o.dst,Ext.refl _ _ _ _,fun _ _ _=>rfl,yW _ _ _,rfl,
      fun l hl=>by rw [g2];exact lU l _ hl,fun l hl=>qM l _ hl,fun c hc=>?_,fun _ _=>rfl,?_⟩
     ·rw [g3]
      exact fI.read hk.down Ag gf i2 fp rF aP (hk.own i fp c hc).2.2
     ·have:=stepR_op_skip (P:=P) (b:=b) (a:=a) (ops:=ops) (i:=i) (rest:=rest) (k:=k) (cs:=cs) (w:=w) (by simp [ho,hw])
      rw [ho] at this
      exact .one this
    ·have CL:kE P o.op tm (dv (dq fs i) σ) ((dq fs i).name σ) r dg:=by
      rw [tX,eA];exact g2.congr (H7 pQ)
     have sE:eT (dq fs i).wr 0 dg (dv (dq fs i) σ):=by rw [tX];exact g3
     have yi : β ((dq fs i).name σ)=none:=by
      unfold Fp.name
      cases hn:(dq fs i).nm with
      | none=>exact hrel.s.nA _ (ah _)
      | some c=>exact sC i c fp wU hn
     have sZ : dg.length = σ.length:=by rw [zI sE,dv,rA]
     have CV : dg.length=(SS i).length:=by omega
     obtain ⟨eO,a1,w1,q1,q2,q3,q4⟩:=kE.step (rest:=rest) hrel ho (vU.trans g1) CL sE (fun c hc=>(hk.own i fp c hc).2.1) yi b k cs
     refine ⟨_,_,eO,a1,w1,q1,q2,q3,yW _ _ _,Hm sZ,fun l hl=>by rw [g4];exact lU l _ hl,fun l hl=>qM l _ hl,fun c hc=>?_,fun c hc=>?_,q4⟩
     ·rw [g5,wx sZ,wx CV,bm,if_pos hc,if_pos hc]
     ·rw [wx sZ,bm,if_neg hc]
   obtain ⟨jE,σ',eO,a1,w1,s1,s2,s3,s4,s5,s6,s7,s8,s9,NT⟩:=step
   have mI:=ih (t / (Region.ready .any ops listed).length) (listed.setIfInBounds i true) jE σ' eO a1 w1 (by simp [fF]) (by have:=HF Az;omega) uY
    (by rw [xN];exact fI.step hk.down gf i1 fp rF (fun l hl=>tY l (.inr (by obtain ⟨o',h1,h2⟩:=hl;rw [ho] at h1;cases h1;exact h2))) s6 s7)
    (by rw [xN];exact fI.step hk.down gf i2 fp rF (fun c hc=>(hk.own i fp c hc).2.2) s8 s9)
    (by omega) (by omega)
    (fun j c hj ye Gy=>by
     have Gi:j≠i:=fun e=>by rw [e] at ye;have:=(hO i).2 (.inr rfl);rw [this] at ye;cases ye
     have CY:listed.getD j false=false:=by rw [qn false (fY Gi)] at ye;exact ye
     obtain ⟨m1,m2,m3⟩:=hk.EF j hj c Gy
     rw [s3 c ?_ (by omega)]
     ·exact sC j c hj CY Gy
     ·unfold Fp.name
      cases hn:(dq fs i).nm with
      | none=>simp only [ep];omega
      | some c'=>exact fun e=>m3 i fp (fY Gi) (by rw [hn,e];rfl)) s1
    (fun j hj=>by rcases (hO j).1 hj with h | rfl;exact qH j h;exact CK)
   rw [tZ] at mI
   have jY:Ext lo.n σ β w σ' eO w1:=⟨s2.os,s2.tape,s2.output,s2.size,s2.cell,s2.block,s2.iB,fun c hc=>s3 c (by
    unfold Fp.name
    cases hn:(dq fs i).nm with
    | none=>simp only [ep];omega
    | some c'=>have:=(hk.EF i fp c' hn).1;simp only [br];omega) (by omega)⟩
   exact mI.of jY NT
theorem X3 (hk:sj ops fs n0 N) (iJ:lo.n≤n0) (hN:n0≤N) (hT:∀ i o,ops[i]? = some o→pN P ops (dq fs i) o (TM i) (SS i) (TM (i+1)) (SS (i+1))∨xx P ops.size o (TM i) SS i (TM (i+1))∧(dq fs i).wr=[]) (CX:∀ i,i≤ops.size→(TM i).length=(TM 0).length) (Gm:∀ i,i≤ops.size→(SS i).length=N)
  (b:Frame) (k:List Item) (cs:List Frame) (fuel t:Nat) (listed:Array Bool) (tm:List ae) (σ:ai) (β:Env) (a:Act) (w:World) (h1:listed.size=ops.size) (h2:nj listed≤fuel)
  (h3:∀ i j,j6 ops i j→listed.getD j false=true→listed.getD i false=true)
  (h4:fI ops.size (fun i l=>∃ o,ops[i]? = some o∧o.dst=some l) (fun i l=>(TM i).getD l .undef) (fun j=>listed.getD j false=true) (fun l=>tm.getD l .undef))
  (h5:fI ops.size (fun i c=>c∈(dq fs i).wr) (fun i c=>(SS i)[c]?) (fun j=>listed.getD j false=true) (fun c=>σ[c]?))
  (h6:tm.length=(TM 0).length) (h7 : σ.length=N) (h8:∀ i c,i<ops.size→listed.getD i false=false→(dq fs i).nm=some c→β c=none) (h9:Rel X base mb D ⟨tm,σ⟩ β a w) :
   ∃ β' a' w',Rel X base mb D ⟨TM ops.size,SS ops.size⟩ β' a' w'∧Ext lo.n σ β w (SS ops.size) β' w' ∧
    Steps P (lone (b.atR a (.inRegion ops (Region.linearise.go .any ops fuel t listed []) :: k)) cs w) (lone (b.atR a' k) cs w'):=by
 rcases Ym4 (lo:=lo) (Q:=fun _ _=>False) (z:=none) (dd:=fun _=>False) (fun _ h=>by cases h) (fun _ h=>h.elim) hk iJ hN (fun i o hi=>.inl (hT i o hi)) CX Gm b k cs (fun _ _ h=>by cases h) fuel t listed tm σ β a w h1 h2 h3 h4 h5 h6 h7 h8 h9 (fun _ _ h=>h) with ⟨_,h⟩ | ⟨h,_⟩
 ·exact h
 ·exact absurd rfl h
theorem aK.draw {k:List KI} {id:Nat} {tm:List ae} {σ:ai} (fs:List Fp) (n0 N:Nat) (hm:P.follows .mixedOrders=true) (j9:qx ops fs n0 N=true) (h0 : σ.length=n0) (hN:n0≤N) (h:im P lo Q k ops ops.toList fs tm (dx N σ)) :
  aK P lo Q (.code (.region id ops true) :: k) .normal ⟨tm,σ⟩:=by
 have hk:=QB j9
 obtain ⟨TM,SS,e1,e2,e3,e4⟩:=Ht _ _ _ _ h
 have hlen:ops.toList.length=ops.size:=by simp
 rw [hlen] at e4
 have hT:∀ i o,ops[i]? = some o→pN P ops (dq fs i) o (TM i) (SS i) (TM (i+1)) (SS (i+1)):=fun i o hi=>e3 i o (by simpa using hi)
 have hl:∀ i,i≤ops.size→(TM i).length=(TM 0).length∧(SS i).length=N:=by
  intro i
  induction i with
  | zero=>intro _;exact ⟨rfl,by rw [e2,KQ (by omega)]⟩
  | succ i ih =>
   intro hi
   have:=(hT i ops[i] (aB (by omega))).len
   have:=ih (by omega)
   omega
 intro X base mb D β a w b kk cs h1 h2 h3 _
 simp only at h1
 have hrel:Rel X base mb D ⟨TM 0,SS 0⟩ β a { w with drawn:=w.drawn+1 }:=by
  have:=Ry (n:=w.drawn+1) h3
  rw [e1,e2]
  exact ⟨this.s.pad (by simp only;omega),this.n,fun j hj=>by rw [Jk];exact this.t j hj,this.d⟩
 obtain ⟨β',a',w',r1,r2,r3⟩:=X3 (lo:=lo) hk (by omega) hN (fun i o hi=>.inl (hT i o hi)) (fun i hi=>(hl i hi).1) (fun i hi=>(hl i hi).2) b kk cs ops.size (w.tape w.drawn (.order b.fn id)) (Array.replicate ops.size false) (TM 0) (SS 0) β a { w with drawn:=w.drawn+1 } (by simp)
  (by simp [nj]) (fun i j _ hj=>by simp [aj,dW] at hj;split at hj<;>simp at hj)
  (by
   have:(fun j=>(Array.replicate ops.size false).getD j false=true)=fun _=>False:=funext fun j=>by simp [aj,dW];split<;>simp
   rw [this];exact fI.init)
  (by
   have:(fun j=>(Array.replicate ops.size false).getD j false=true)=fun _=>False:=funext fun j=>by simp [aj,dW];split<;>simp
   rw [this];exact fI.init)
  rfl (hl 0 (av _)).2 (fun i c hi _ hc=>h3.s.nA c (by simp only;have:=(hk.EF i hi c hc).1;omega)) hrel
 rw [e2] at r2
 refine ⟨.normal,⟨TM ops.size,SS ops.size⟩,β',a',w',e4,?_,r1,?_, .head stepR_region_draw ?_⟩
 ·have:=(hl ops.size (ah _)).2
  simp only;omega
 ·exact ⟨r2.os,r2.tape,r2.output,r2.size,fun g o v hc hn=>r2.cell g o v hc fun hm=>hn (Cd.1 hm),fun g hg hn=>r2.block g hg fun o hm=>hn o (Cd.1 hm),fun g o hm=>(r2.iB g o hm).imp Cd.1 (fun h=>h),r2.env⟩
 ·have hs:Region.schedule (P.follows .mixedOrders) ops (w.tape w.drawn (.order b.fn id))=Region.linearise.go .any ops ops.size (w.tape w.drawn (.order b.fn id)) (Array.replicate ops.size false) []:=by
   simp only [Region.schedule,hm,fH,if_true];rfl
  rw [hs];exact r3
end
end Go.c8
