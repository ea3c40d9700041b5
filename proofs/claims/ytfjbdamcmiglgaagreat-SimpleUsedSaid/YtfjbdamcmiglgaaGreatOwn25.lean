/- Part 25 of my own framework and of the walks of functions: AbsZ. -/
import Derived.Test.YtfjbdamcmiglgaaGreatOwn24
abbrev d_:=@Array.getElem?_replicate
abbrev fH:=@Bool.true_or
abbrev qw:=@Go.getD_set_ne
abbrev oH:=@List.getElem?_set_self'
abbrev lK:=@List.mem_of_getElem?
abbrev lC:=@List.reverse_nil
abbrev pb:=@List.reverse_singleton
abbrev p_:=@List.singleton_append
abbrev ez:=@Option.getD_none
set_option linter.unusedVariables false
set_option linter.unusedSectionVars false
set_option linter.unusedSimpArgs false
namespace Go.cV
open Go
def nn (listed:Array Bool):Nat:=listed.toList.count false
theorem HQ {listed:Array Bool} {i:Nat} (h:listed.getD i true=false):nn (listed.setIfInBounds i true)+1=nn listed:=by
 have hi:i<listed.size:=by
  refine jv fun hle=>?_
  simp [Array.getElem?_eq_none hle] at h
 have hv:listed.toList[i]'(by simpa using hi)=false:=by simpa [hi] using h
 simp only [nn,Array.toList_setIfInBounds]
 rw [List.count_set (by simpa using hi),hv]
 have : 0<listed.toList.count false:=List.count_pos_iff.2 (hv ▸ aF _)
 rw [show (true==false)=false from rfl]
 simp only [beq_self_eq_true,if_true,a8,if_false]
 omega
theorem J1 {listed:Array Bool} (h:nn listed=0) {j:Nat} (hj:j<listed.size):listed.getD j false=true:=by
 have:false ∉ listed.toList:=List.count_eq_zero.1 h
 cases hv:listed[j] with
 | true=>simp [hj,hv]
 | false=>exact absurd (by rw [← hv];simp) this
theorem fI.some {V:Type} {m:Nat} {wr:Nat→Nat→Prop} {S:Nat→Nat→V} {D:Nat→Prop} {s:Nat→V} (h:fI m wr S D s) (l:Nat):∃ k,k≤m∧s l=S k l:=by
 rcases JS (wr:=fun j l=>D j∧wr j l) l m with h1 | ⟨j,h1,⟨h2,uS⟩,h3⟩
 ·exact ⟨0,av _,(h l).1 fun j hj vl hw=>h1 j hj ⟨vl,hw⟩⟩
 ·exact ⟨j+1,h1,(h l).2 j h1 h2 uS fun j' rF Mg w6=>dP fun bD=>h3 j' bD rF ⟨Mg,w6⟩⟩
theorem SE (l:eI) (p:ae):∃ b:Nat, ∀ σ σ':ai,σ[b]? = σ'[b]?→iT σ l p=iT σ' l p:=by
 cases p with
 | ptr b off=>exact ⟨b,fun σ σ' h=>by simp only [iT,bF,h]⟩
 | rp b i f=>exact ⟨b,fun σ σ' h=>by simp only [iT,bF,h]⟩
 | _=>exact ⟨0,fun _ _ _=>rfl⟩
def xE (P:Program) (m:Nat) (o:Oper) (tm:List ae) (SS:Nat→ai) (i:Nat) (jE:List ae):Prop :=
 o.guard=none∧∃ t x l r,o.op = .load t x∧aC P t=some l∧(∀ k,k≤m→iT (SS k) l (ev tm x)=some r)∧jE=put tm o.dst r∧SS (i+1)=SS i
section
variable {P:Program} {lo:Ctx} {Q:cb→St→Prop} {ops:Array Oper} {fs:List Fp} {n0 N:Nat} {TM:Nat→List ae} {SS:Nat→ai} {X:Nat→Nat→Prop} {base mb:Nat} {D:List Deferred}
def nw (P:Program) (lo:Ctx) (Q:cb→St→Prop) (X:Nat→Nat→Prop) (base mb:Nat) (D:List Deferred) (b:Frame) (k:List Item) (cs:List Frame) (z:Option Nat) (zE:List ae) (xD σ:ai) (β:Env) (w:World) (m:Machine):Prop :=
 (z=none∧∃ β' a' w',Rel X base mb D ⟨zE,xD⟩ β' a' w'∧Ext lo.n σ β w xD β' w'∧Steps P m (lone (b.atR a' k) cs w')) ∨
  z≠none∧∃ u dZ β' a' w' k',Q (.panic u) dZ∧lo.n≤dZ.σ.length∧Rel X base mb D dZ β' a' w'∧Ext lo.n σ β w dZ.σ β' w'∧Steps P m (lone { b.atR a' k' with mode:=.panicking [{ v:=u,recovered:=false }] } cs w')
theorem nw.of {b:Frame} {k:List Item} {cs:List Frame} {z:Option Nat} {zE:List ae} {xD σ σ':ai} {β eS:Env} {w w1:World} {m m1:Machine} (he:Ext lo.n σ β w σ' eS w1) (hs:Steps P m m1) (h:nw P lo Q X base mb D b k cs z zE xD σ' eS w1 m1) :
  nw P lo Q X base mb D b k cs z zE xD σ β w m:=by
 rcases h with ⟨h0,β',a',w',h1,h2,h3⟩ | ⟨hz,u,dZ,β',a',w',k',h0,L9,h1,h2,h3⟩
 ·exact .inl ⟨h0,β',a',w',h1,he.trans h2,hs.trans h3⟩
 ·exact .inr ⟨hz,u,dZ,β',a',w',k',h0,L9,h1,he.trans h2,hs.trans h3⟩
theorem Yiz {z:Option Nat} {dd:Nat→Prop} (hz:∀ i0,z=some i0→i0<ops.size∧dd i0) (hdd:∀ j,dd j→∃ i0,z=some i0∧(j=i0∨j6 ops i0 j)) (hk:sC ops fs n0 N) (iL:lo.n≤n0) (hN:n0≤N)
  (hT:∀ i o,ops[i]? = some o→((pV P ops (du fs i) o (TM i) (SS i) (TM (i+1)) (SS (i+1))∨xE P ops.size o (TM i) SS i (TM (i+1))∧(du fs i).wr=[])∨dd i∧(∃ v,TM (i+1)=put (TM i) o.dst v)∧SS (i+1)=SS i)) (C9:∀ i,i≤ops.size→(TM i).length=(TM 0).length) (Gt:∀ i,i≤ops.size→(SS i).length=N)
  (b:Frame) (k:List Item) (cs:List Frame)
  (hP:∀ i o,z=some i→ops[i]? = some o→∀ (tm:List ae) (σ:ai) (β:Env) (a:Act) (w:World) (rest:List Nat),(∀ l,l∈o.looksAt ops→tm.getD l .undef=(TM i).getD l .undef)→l8 ops tm o=l8 ops (TM i) o→(∀ c,c ∉ (du fs i).hd→σ[c]? = (SS i)[c]?)→σ.length=N→Rel X base mb D ⟨tm,σ⟩ β a w →
   ∃ u dZ β' a' w' k',Q (.panic u) dZ∧lo.n≤dZ.σ.length∧Rel X base mb D dZ β' a' w'∧Ext lo.n σ β w dZ.σ β' w'∧Steps P (lone (b.atR a (.inRegion ops (i :: rest) :: k)) cs w) (lone { b.atR a' k' with mode:=.panicking [{ v:=u,recovered:=false }] } cs w')) :
  ∀ (fuel t:Nat) (listed:Array Bool) (tm:List ae) (σ:ai) (β:Env) (a:Act) (w:World),listed.size=ops.size→nn listed≤fuel →
   (∀ i j,j6 ops i j→listed.getD j false=true→listed.getD i false=true) →
   fI ops.size (fun i l=>∃ o,ops[i]? = some o∧o.dst=some l) (fun i l=>(TM i).getD l .undef) (fun j=>listed.getD j false=true) (fun l=>tm.getD l .undef) →
   fI ops.size (fun i c=>c∈(du fs i).wr) (fun i c=>(SS i)[c]?) (fun j=>listed.getD j false=true) (fun c=>σ[c]?) →
   tm.length=(TM 0).length→σ.length=N→(∀ i c,i<ops.size→listed.getD i false=false→(du fs i).nm=some c→β c=none)→Rel X base mb D ⟨tm,σ⟩ β a w→(∀ j,listed.getD j false=true→¬ dd j) →
   nw P lo Q X base mb D b k cs z (TM ops.size) (SS ops.size) σ β w (lone (b.atR a (.inRegion ops (Region.linearise.go .any ops fuel t listed []) :: k)) cs w):=by
 have CQ:∀ i l,i<ops.size→¬ (∃ o,ops[i]? = some o∧o.dst=some l)→(TM (i+1)).getD l .undef=(TM i).getD l .undef:=by
  intro i l hi hn
  have ho:ops[i]? = some ops[i]:=aB hi
  have lS:∀ v,(put (TM i) ops[i].dst v).getD l .undef=(TM i).getD l .undef:=by
   intro v
   cases hd:ops[i].dst with
   | none=>rfl
   | some d =>
    have dX:d≠l:=fun e=>hn ⟨ops[i],ho,by rw [hd,e]⟩
    simp only [put,List.getD,bK dX]
  rcases hT i _ ho with ((⟨_,h,_⟩ | ⟨_,r,dh,_,_,h,_⟩) | ⟨⟨_,_,_,_,_,_,_,_,h,_⟩,_⟩) | ⟨_,⟨_,h⟩,_⟩<;>rw [h]<;>exact lS _
 have Ao:∀ i c,i<ops.size→¬ c∈(du fs i).wr→(SS (i+1))[c]? = (SS i)[c]?:=by
  intro i c hi hn
  have ho:ops[i]? = some ops[i]:=aB hi
  rcases hT i _ ho with ((⟨_,_,h⟩ | ⟨_,r,dh,_,h2,_,h⟩) | ⟨⟨_,_,_,_,_,_,_,_,_,h⟩,_⟩) | ⟨_,_,h⟩
  rotate_right
  ·rw [h]
  rotate_right
  ·rw [h]
  ·rw [h]
  ·rw [h,wE (by rw [zQ h2,dw,rM]),bm,if_neg hn]
 intro fuel
 have finish:∀ (listed:Array Bool) (tm:List ae) (σ:ai) (β:Env) (a:Act) (w:World),(∀ j,j<ops.size→listed.getD j false=true) →
   fI ops.size (fun i l=>∃ o,ops[i]? = some o∧o.dst=some l) (fun i l=>(TM i).getD l .undef) (fun j=>listed.getD j false=true) (fun l=>tm.getD l .undef) →
   fI ops.size (fun i c=>c∈(du fs i).wr) (fun i c=>(SS i)[c]?) (fun j=>listed.getD j false=true) (fun c=>σ[c]?) →
   tm.length=(TM 0).length→σ.length=N→Rel X base mb D ⟨tm,σ⟩ β a w→(∀ j,listed.getD j false=true→¬ dd j) →
   nw P lo Q X base mb D b k cs z (TM ops.size) (SS ops.size) σ β w (lone (b.atR a (.inRegion ops [] :: k)) cs w):=by
  intro listed tm σ β a w eX i1 i2 l1 l2 hrel qR
  have GX:z=none:=by
   cases AL:z with
   | none=>rfl
   | some i0=>obtain ⟨q1,q2⟩:=hz i0 AL;exact absurd q2 (qR i0 (eX i0 q1))
  have e1:tm=TM ops.size:=by
   apply bO
   intro l
   have h1:tm.getD l .undef=(TM ops.size).getD l .undef:=fI.done CQ i1 eX l
   have hl:=C9 ops.size (ah _)
   by_cases bD:l<tm.length
   ·have aZ:l<(TM ops.size).length:=by omega
    rw [aA bD,aA aZ]
    simp only [List.getD,aA bD,aA aZ,br] at h1
    rw [h1]
   ·rw [bq (by omega),bq (by omega)]
  have e2 : σ=SS ops.size:=by
   apply bO
   intro c
   exact fI.done Ao i2 eX c
  subst e1 e2
  exact .inl ⟨GX,β,a,w,hrel,Ext.refl _ _ _ _, .one stepR_region_end⟩
 induction fuel with
 | zero =>
  intro t listed tm σ β a w ft yw ga i1 i2 l1 l2 sO hrel qR
  simp only [Region.linearise.go,lC]
  exact finish listed tm σ β a w (fun j hj=>J1 (by omega) (by omega)) i1 i2 l1 l2 hrel qR
 | succ fuel ih =>
  intro t listed tm σ β a w ft yw ga i1 i2 l1 l2 sO hrel qR
  simp only [Region.linearise.go]
  change nw P lo Q X base mb D b k cs z (TM ops.size) (SS ops.size) σ β w (lone (b.atR a (.inRegion ops (match (Region.ready .any ops listed)[t % (Region.ready .any ops listed).length]? with
   | some i=>Region.linearise.go .any ops fuel (t / (Region.ready .any ops listed).length) (listed.setIfInBounds i true) [i]
   | none=>[].reverse) :: k)) cs w)
  cases hi:(Region.ready .any ops listed)[t % (Region.ready .any ops listed).length]? with
  | none =>
   have yn:Region.ready .any ops listed=[]:=by
    cases hr:Region.ready .any ops listed with
    | nil=>rfl
    | cons x xs =>
     rw [hr] at hi
     have bD:t % (x :: xs).length<(x :: xs).length:=Nat.mod_lt _ (by simp)
     simp at hi
     simp at bD
     omega
   refine finish listed tm σ β a w (fun j=>?_) i1 i2 l1 l2 hrel qR
   induction j using Nat.strongRecOn with
   | _ j NT =>
    intro hj
    cases hv:listed.getD j false with
    | true=>rfl
    | false =>
     have jy:j∈Region.ready .any ops listed:=mem_ready.2 ⟨by
      have:j<listed.size:=by omega
      simpa [this] using hv,ops[j],aB hj,fun e he hb=>by
       have bD:e.on<j:=(j6.edge (aB hj) he hb).lt hk.down
       exact NT e.on bD (by omega)⟩
     rw [yn] at jy;cases jy
  | some i =>
   simp only []
   rw [linearise_go_acc,pb,p_]
   obtain ⟨AH,o,ho,eX⟩:=mem_ready.1 (lK hi)
   have fh:i<ops.size:=(aL.1 ho).1
   have w5:listed.getD i false=false:=by
    have:i<listed.size:=by omega
    simpa [this] using AH
   have rQ:¬ (listed.getD i false=true):=by rw [w5];simp
   have aO:∀ j,j6 ops j i→listed.getD j false=true:=by
    intro j hb
    generalize dR:i=i' at hb
    induction hb with
    | @edge j' o' e h1 h2 h3 =>
     subst dR
     rw [ho] at h1;cases h1
     exact eX e h2 h3
    | trans h1 h2 _ oC=>exact ga _ _ h1 (oC dR)
   have um:∀ l,l∈o.looksAt ops∨o.dst=some l→∀ j,j<ops.size→j≠i→(∃ oj,ops[j]? = some oj∧oj.dst=some l)→j6 ops i j∨j6 ops j i:=by
    rintro l hl j hj dX ⟨oj,h1,h2⟩
    exact hk.tmp i o ho l hl j oj h1 dX h2
   have pZ:∀ l,l∈o.looksAt ops→tm.getD l .undef=(TM i).getD l .undef:=fun l hl=>fI.read hk.down CQ ga i1 fh rQ aO (um l (.inl hl))
   have wz:∀ c,c ∉ (du fs i).hd→σ[c]? = (SS i)[c]?:=fun c hc=>fI.read hk.down Ao ga i2 fh rQ aO (hk.see i fh c hc)
   have M5:=C9 i (by omega)
   have C8:=Gt i (by omega)
   have uk:dw (du fs i) σ=dw (du fs i) (SS i):=by
    apply bO
    intro c
    simp only [dw,vV,bm]
    by_cases hc:c∈(du fs i).hd
    ·have e:(!(du fs i).hd.contains c)=false:=by simp [hc]
     rw [e]
     by_cases bD:c<N
     ·rw [aA (l:=σ) (by omega),aA (l:=SS i) (by omega)];rfl
     ·rw [bq (l:=σ) (by omega),bq (l:=SS i) (by omega)]
    ·rw [wz c hc]
   have eE:(du fs i).name σ=(du fs i).name (SS i):=by simp only [Fp.name,l2,C8]
   have vZ:l8 ops tm o=l8 ops (TM i) o:=Te (by omega) pZ
   have lS:∀ (l:Nat) (v:ae),(∃ o',ops[i]? = some o'∧o'.dst=some l)→(put tm o.dst v).getD l .undef=(put (TM i) o.dst v).getD l .undef:=by
    rintro l v ⟨o',h1,h2⟩
    rw [ho] at h1;cases h1
    rw [h2]
    simp only [put,List.getD,oH]
    by_cases bD:l<tm.length
    ·rw [aA bD,aA (show l<(TM i).length by omega)];rfl
    ·rw [bq (dP bD),bq (show (TM i).length≤l by omega)]
   have qX:∀ (l:Nat) (v:ae), ¬ (∃ o',ops[i]? = some o'∧o'.dst=some l)→(put tm o.dst v).getD l .undef=tm.getD l .undef:=by
    intro l v hn
    cases hd:o.dst with
    | none=>rfl
    | some d =>
     have dX:d≠l:=fun e=>hn ⟨o,ho,by rw [hd,e]⟩
     simp only [put,List.getD,bK dX]
   have h_:∀ j,((listed.setIfInBounds i true).getD j false=true)↔(listed.getD j false=true∨j=i):=by
    intro j
    constructor
    ·intro h
     by_cases e:i=j
     ·exact .inr e.symm
     ·rw [qw false e] at h;exact .inl h
    ·rintro (h | rfl)
     ·exact getD_set_true h
     ·have:j<listed.size:=by omega
      simp [this]
   have xT:(fun j=>(listed.setIfInBounds i true).getD j false=true)=fun j=>listed.getD j false=true∨j=i:=funext fun j=>propext (h_ j)
   have vp:∀ i' j,j6 ops i' j→(listed.setIfInBounds i true).getD j false=true→(listed.setIfInBounds i true).getD i' false=true:=by
    intro i' j hb hj
    rw [h_] at hj ⊢
    rcases hj with hj | rfl
    ·exact .inl (ga i' j hb hj)
    ·exact .inl (aO i' hb)
   have CR:=hT i o ho
   by_cases CV:dd i
   ·obtain ⟨i0,Dt,zo⟩:=hdd i CV
    rcases zo with rfl | hb
    ·exact .inr ⟨by rw [Dt];simp,hP i o Dt ho tm σ β a w _ pZ vZ wz l2 hrel⟩
    ·exact absurd (hz i0 Dt).2 (qR i0 (aO i0 hb))
   have CR:=CR.resolve_right fun h=>CV h.1
   generalize uq:Region.linearise.go .any ops fuel (t / (Region.ready .any ops listed).length) (listed.setIfInBounds i true) []=rest
   have step:∃ jE σ' eS a1 w1,Rel X base mb D ⟨jE,σ'⟩ eS a1 w1∧Ext 0 σ β w σ' eS w1∧(∀ c,c≠(du fs i).name σ→c < σ.length→eS c = β c)∧jE.length=tm.length∧σ'.length = σ.length ∧
     (∀ l,(∃ o',ops[i]? = some o'∧o'.dst=some l)→jE.getD l .undef=(TM (i+1)).getD l .undef)∧(∀ l, ¬ (∃ o',ops[i]? = some o'∧o'.dst=some l)→jE.getD l .undef=tm.getD l .undef) ∧
     (∀ c,c∈(du fs i).wr→σ'[c]? = (SS (i+1))[c]?)∧(∀ c,c ∉ (du fs i).wr→σ'[c]? = σ[c]?) ∧
     Steps P (lone (b.atR a (.inRegion ops (i :: rest) :: k)) cs w) (lone (b.atR a1 (.inRegion ops rest :: k)) cs w1):=by
    rcases CR with (⟨g1,g2,g3⟩ | ⟨g1,r,dh,g2,g3,g4,g5⟩) | ⟨⟨g1,t0,x0,l0,r,g2,g3,g4,g5,g6⟩,g7⟩
    rotate_right
    ·have Ar:l8 ops tm o=some true:=by unfold l8;rw [g1]
     have hx:ev tm x0=ev (TM i) x0:=Ik pZ x0 (by rw [g2];simp [Op.operands])
     obtain ⟨b0,xr⟩:=SE l0 (ev (TM i) x0)
     obtain ⟨k0,C3,nI⟩:=i2.some b0
     have qR:iT σ l0 (ev tm x0)=some r:=by rw [hx,xr σ (SS k0) nI];exact g4 k0 C3
     have CW:kB P o.op tm (dw Fp.no σ) (Fp.no.name σ) r σ:=by
      have sc:dw Fp.no σ = σ:=by
       apply bO
       intro c
       simp only [dw,vV,bm,Fp.no]
       cases σ[c]?<;>rfl
      rw [sc,g2]
      simp only [kB,cY,g3,ew,qR,bw]
     have sQ:eW Fp.no.wr 0 σ (dw Fp.no σ):=by
      have sc:dw Fp.no σ = σ:=by
       apply bO
       intro c
       simp only [dw,vV,bm,Fp.no]
       cases σ[c]?<;>rfl
      rw [sc]
      have:∀ (i:Nat) (a:ai),eW Fp.no.wr i a a:=fun i a=>by
       induction a generalizing i with
       | nil=>trivial
       | cons x a ih=>exact ⟨.inr rfl,ih _⟩
      exact this 0 σ
     obtain ⟨eS,a1,w1,q1,q2,q3,q4⟩:=kB.step (rest:=rest) hrel ho Ar CW sQ (fun c hc=>by simp [Fp.no] at hc) (hrel.s.nC _ (ah _)) b k cs
     have Na:dD Fp.no.wr 0 σ σ = σ:=by
      apply bO
      intro c
      rw [wE rfl];split<;>rfl
     rw [Na] at q1 q2
     refine ⟨_,σ,eS,a1,w1,q1,q2,fun c _ hc=>q3 c (by simp only [Fp.name,Fp.no,ez];omega) hc,y4 _ _ _,rfl,fun l hl=>by rw [g5];exact lS l _ hl,fun l hl=>qX l _ hl,fun c hc=>?_,fun _ _=>rfl,q4⟩
     rw [g7] at hc;cases hc
    ·have hw:=zI hrel (vZ.trans g1)
     refine ⟨put tm o.dst gone,σ,β,a.put o.dst undef,w,hrel.next hrel.s (Ext.refl 0 _ _ _) (fun _ _ h=>h) (.nM _) o.dst,Ext.refl _ _ _ _,fun _ _ _=>rfl,y4 _ _ _,rfl,
      fun l hl=>by rw [g2];exact lS l _ hl,fun l hl=>qX l _ hl,fun c hc=>?_,fun _ _=>rfl,?_⟩
     ·rw [g3]
      exact fI.read hk.down Ao ga i2 fh rQ aO (hk.own i fh c hc).2.2
     ·have:=stepR_op_skip (P:=P) (b:=b) (a:=a) (ops:=ops) (i:=i) (rest:=rest) (k:=k) (cs:=cs) (w:=w) (by simp [ho,hw])
      rw [ho] at this
      exact .one this
    ·have CW:kB P o.op tm (dw (du fs i) σ) ((du fs i).name σ) r dh:=by
      rw [uk,eE];exact g2.congr (Ik pZ)
     have sQ:eW (du fs i).wr 0 dh (dw (du fs i) σ):=by rw [uk];exact g3
     have yo : β ((du fs i).name σ)=none:=by
      unfold Fp.name
      cases hn:(du fs i).nm with
      | none=>exact hrel.s.nC _ (ah _)
      | some c=>exact sO i c fh w5 hn
     have tv : dh.length = σ.length:=by rw [zQ sQ,dw,rM]
     have C7 : dh.length=(SS i).length:=by omega
     obtain ⟨eS,a1,w1,q1,q2,q3,q4⟩:=kB.step (rest:=rest) hrel ho (vZ.trans g1) CW sQ (fun c hc=>(hk.own i fh c hc).2.1) yo b k cs
     refine ⟨_,_,eS,a1,w1,q1,q2,q3,y4 _ _ _,Hx tv,fun l hl=>by rw [g4];exact lS l _ hl,fun l hl=>qX l _ hl,fun c hc=>?_,fun c hc=>?_,q4⟩
     ·rw [g5,wE tv,wE C7,bm,if_pos hc,if_pos hc]
     ·rw [wE tv,bm,if_neg hc]
   obtain ⟨jE,σ',eS,a1,w1,s1,s2,s3,s4,s5,s6,s7,s8,s9,N8⟩:=step
   have mH:=ih (t / (Region.ready .any ops listed).length) (listed.setIfInBounds i true) jE σ' eS a1 w1 (by simp [ft]) (by have:=HQ AH;omega) vp
    (by rw [xT];exact fI.step hk.down ga i1 fh rQ (fun l hl=>um l (.inr (by obtain ⟨o',h1,h2⟩:=hl;rw [ho] at h1;cases h1;exact h2))) s6 s7)
    (by rw [xT];exact fI.step hk.down ga i2 fh rQ (fun c hc=>(hk.own i fh c hc).2.2) s8 s9)
    (by omega) (by omega)
    (fun j c hj yk GH=>by
     have Gp:j≠i:=fun e=>by rw [e] at yk;have:=(h_ i).2 (.inr rfl);rw [this] at yk;cases yk
     have C_:listed.getD j false=false:=by rw [qw false (fY Gp)] at yk;exact yk
     obtain ⟨m1,m2,m3⟩:=hk.EN j hj c GH
     rw [s3 c ?_ (by omega)]
     ·exact sO j c hj C_ GH
     ·unfold Fp.name
      cases hn:(du fs i).nm with
      | none=>simp only [ez];omega
      | some c'=>exact fun e=>m3 i fh (fY Gp) (by rw [hn,e];rfl)) s1
    (fun j hj=>by rcases (h_ j).1 hj with h | rfl;exact qR j h;exact CV)
   rw [uq] at mH
   have jY:Ext lo.n σ β w σ' eS w1:=⟨s2.os,s2.tape,s2.output,s2.size,s2.cell,s2.block,s2.iC,fun c hc=>s3 c (by
    unfold Fp.name
    cases hn:(du fs i).nm with
    | none=>simp only [ez];omega
    | some c'=>have:=(hk.EN i fh c' hn).1;simp only [br];omega) (by omega)⟩
   exact mH.of jY N8
theorem X0 (hk:sC ops fs n0 N) (iL:lo.n≤n0) (hN:n0≤N) (hT:∀ i o,ops[i]? = some o→pV P ops (du fs i) o (TM i) (SS i) (TM (i+1)) (SS (i+1))∨xE P ops.size o (TM i) SS i (TM (i+1))∧(du fs i).wr=[]) (C9:∀ i,i≤ops.size→(TM i).length=(TM 0).length) (Gt:∀ i,i≤ops.size→(SS i).length=N)
  (b:Frame) (k:List Item) (cs:List Frame) (fuel t:Nat) (listed:Array Bool) (tm:List ae) (σ:ai) (β:Env) (a:Act) (w:World) (h1:listed.size=ops.size) (h2:nn listed≤fuel)
  (h3:∀ i j,j6 ops i j→listed.getD j false=true→listed.getD i false=true)
  (h4:fI ops.size (fun i l=>∃ o,ops[i]? = some o∧o.dst=some l) (fun i l=>(TM i).getD l .undef) (fun j=>listed.getD j false=true) (fun l=>tm.getD l .undef))
  (h5:fI ops.size (fun i c=>c∈(du fs i).wr) (fun i c=>(SS i)[c]?) (fun j=>listed.getD j false=true) (fun c=>σ[c]?))
  (h6:tm.length=(TM 0).length) (h7 : σ.length=N) (h8:∀ i c,i<ops.size→listed.getD i false=false→(du fs i).nm=some c→β c=none) (h9:Rel X base mb D ⟨tm,σ⟩ β a w) :
   ∃ β' a' w',Rel X base mb D ⟨TM ops.size,SS ops.size⟩ β' a' w'∧Ext lo.n σ β w (SS ops.size) β' w' ∧
    Steps P (lone (b.atR a (.inRegion ops (Region.linearise.go .any ops fuel t listed []) :: k)) cs w) (lone (b.atR a' k) cs w'):=by
 rcases Yiz (lo:=lo) (Q:=fun _ _=>False) (z:=none) (dd:=fun _=>False) (fun _ h=>by cases h) (fun _ h=>h.elim) hk iL hN (fun i o hi=>.inl (hT i o hi)) C9 Gt b k cs (fun _ _ h=>by cases h) fuel t listed tm σ β a w h1 h2 h3 h4 h5 h6 h7 h8 h9 (fun _ _ h=>h) with ⟨_,h⟩ | ⟨h,_⟩
 ·exact h
 ·exact absurd rfl h
theorem aK.draw {k:List KI} {id:Nat} {tm:List ae} {σ:ai} (fs:List Fp) (n0 N:Nat) (hm:P.follows .mixedOrders=true) (j8:qG ops fs n0 N=true) (h0 : σ.length=n0) (hN:n0≤N) (h:iq P lo Q k ops ops.toList fs tm (dA N σ)) :
  aK P lo Q (.code (.region id ops true) :: k) .normal ⟨tm,σ⟩:=by
 have hk:=Qr j8
 obtain ⟨TM,SS,e1,e2,e3,e4⟩:=Hy _ _ _ _ h
 have hlen:ops.toList.length=ops.size:=by simp
 rw [hlen] at e4
 have hT:∀ i o,ops[i]? = some o→pV P ops (du fs i) o (TM i) (SS i) (TM (i+1)) (SS (i+1)):=fun i o hi=>e3 i o (by simpa using hi)
 have hl:∀ i,i≤ops.size→(TM i).length=(TM 0).length∧(SS i).length=N:=by
  intro i
  induction i with
  | zero=>intro _;exact ⟨rfl,by rw [e2,La (by omega)]⟩
  | succ i ih =>
   intro hi
   have:=(hT i ops[i] (aB (by omega))).len
   have:=ih (by omega)
   omega
 intro X base mb D β a w b kk cs h1 h2 h3 _
 simp only at h1
 have hrel:Rel X base mb D ⟨TM 0,SS 0⟩ β a { w with drawn:=w.drawn+1 }:=by
  have:=SF (n:=w.drawn+1) h3
  rw [e1,e2]
  exact ⟨this.s.pad (by simp only;omega),this.n,fun j hj=>by rw [Jy];exact this.t j hj,this.d⟩
 obtain ⟨β',a',w',r1,r2,r3⟩:=X0 (lo:=lo) hk (by omega) hN (fun i o hi=>.inl (hT i o hi)) (fun i hi=>(hl i hi).1) (fun i hi=>(hl i hi).2) b kk cs ops.size (w.tape w.drawn (.order b.fn id)) (Array.replicate ops.size false) (TM 0) (SS 0) β a { w with drawn:=w.drawn+1 } (by simp)
  (by simp [nn]) (fun i j _ hj=>by simp [aj,d_] at hj;split at hj<;>simp at hj)
  (by
   have:(fun j=>(Array.replicate ops.size false).getD j false=true)=fun _=>False:=funext fun j=>by simp [aj,d_];split<;>simp
   rw [this];exact fI.init)
  (by
   have:(fun j=>(Array.replicate ops.size false).getD j false=true)=fun _=>False:=funext fun j=>by simp [aj,d_];split<;>simp
   rw [this];exact fI.init)
  rfl (hl 0 (av _)).2 (fun i c hi _ hc=>h3.s.nC c (by simp only;have:=(hk.EN i hi c hc).1;omega)) hrel
 rw [e2] at r2
 refine ⟨.normal,⟨TM ops.size,SS ops.size⟩,β',a',w',e4,?_,r1,?_, .head stepR_region_draw ?_⟩
 ·have:=(hl ops.size (ah _)).2
  simp only;omega
 ·exact ⟨r2.os,r2.tape,r2.output,r2.size,fun g o v hc hn=>r2.cell g o v hc fun hm=>hn (Cq.1 hm),fun g hg hn=>r2.block g hg fun o hm=>hn o (Cq.1 hm),fun g o hm=>(r2.iC g o hm).imp Cq.1 (fun h=>h),r2.env⟩
 ·have hs:Region.schedule (P.follows .mixedOrders) ops (w.tape w.drawn (.order b.fn id))=Region.linearise.go .any ops ops.size (w.tape w.drawn (.order b.fn id)) (Array.replicate ops.size false) []:=by
   simp only [Region.schedule,hm,fH,if_true];rfl
  rw [hs];exact r3
end
end Go.cV
