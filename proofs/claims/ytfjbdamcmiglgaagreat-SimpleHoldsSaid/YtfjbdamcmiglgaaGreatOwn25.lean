/- Part 25 of my own framework and of the walks of functions: AbsZ. -/
import Derived.Test.YtfjbdamcmiglgaaGreatOwn24
abbrev eM:=@Array.getElem?_replicate
abbrev fM:=@Bool.true_or
abbrev rH:=@Go.getD_set_ne
abbrev py:=@List.getElem?_set_self'
abbrev mf:=@List.mem_of_getElem?
abbrev lZ:=@List.reverse_nil
abbrev pX:=@List.reverse_singleton
abbrev qP:=@List.singleton_append
abbrev eB:=@Option.getD_none
set_option linter.unusedVariables false
set_option linter.unusedSectionVars false
set_option linter.unusedSimpArgs false
namespace Go.dm
open Go
def nZ (listed:Array Bool):Nat:=listed.toList.count false
theorem Jb {listed:Array Bool} {i:Nat} (h:listed.getD i true=false):nZ (listed.setIfInBounds i true)+1=nZ listed:=by
 have hi:i<listed.size:=by
  refine jU fun hle=>?_;simp [Array.getElem?_eq_none hle] at h
 have hv:listed.toList[i]'(by simpa using hi)=false:=by simpa [hi] using h
 simp only [nZ,Array.toList_setIfInBounds];rw [List.count_set (by simpa using hi),hv];have : 0<listed.toList.count false:=List.count_pos_iff.2 (hv ▸ aC _);rw [show (true==false)=false from rfl]
 simp only [beq_self_eq_true,if_true,bd,if_false];omega
theorem LS {listed:Array Bool} (h:nZ listed=0) {j:Nat} (hj:j<listed.size):listed.getD j false=true:=by
 have:false ∉ listed.toList:=List.count_eq_zero.1 h;cases hv:listed[j] with
 | true=>simp [hj,hv]
 | false=>exact absurd (by rw [← hv];simp) this
theorem gy.some {V:Type} {m:Nat} {wr:Nat→Nat→Prop} {S:Nat→Nat→V} {D:Nat→Prop} {s:Nat→V} (h:gy m wr S D s) (l:Nat):∃ k,k≤m∧s l=S k l:=by
 rcases Lu (wr:=fun j l=>D j∧wr j l) l m with h1 | ⟨j,h1,⟨h2,uH⟩,h3⟩
 ·exact ⟨0,au _,(h l).1 fun j hj wz hw=>h1 j hj ⟨wz,hw⟩⟩
 ·exact ⟨j+1,h1,(h l).2 j h1 h2 uH fun j' sS Og yc=>eA fun bA=>h3 j' bA sS ⟨Og,yc⟩⟩
theorem UN (l:fj) (p:ah):∃ b:Nat, ∀ σ σ':ai,σ[b]? = σ'[b]?→jv σ l p=jv σ' l p:=by
 cases p with
 | ptr b off=>exact ⟨b,fun σ σ' h=>by simp only [jv,bP,h]⟩
 | rp b i f=>exact ⟨b,fun σ σ' h=>by simp only [jv,bP,h]⟩
 | _=>exact ⟨0,fun _ _ _=>rfl⟩
def yI (P:Program) (m:Nat) (o:Oper) (tm:List ah) (SS:Nat→ai) (i:Nat) (j6:List ah):Prop :=
 o.guard=none∧∃ t x l r,o.op = .load t x∧aF P t=some l∧(∀ k,k≤m→jv (SS k) l (ev tm x)=some r)∧j6=put tm o.dst r∧SS (i+1)=SS i
section
variable {P:Program} {lo:Ctx} {Q:ct→St→Prop} {ops:Array Oper} {fs:List Fp} {n0 N:Nat} {TM:Nat→List ah} {SS:Nat→ai} {X:Nat→Nat→Prop} {base mb:Nat} {D:List Deferred}
def n7 (P:Program) (lo:Ctx) (Q:ct→St→Prop) (X:Nat→Nat→Prop) (base mb:Nat) (D:List Deferred) (b:Frame) (k:List Item) (cs:List Frame) (z:Option Nat) (AZ:List ah) (yH σ:ai) (β:Env) (w:World) (m:Machine):Prop :=
 (z=none∧∃ β' a' w',Rel X base mb D ⟨AZ,yH⟩ β' a' w'∧Ext lo.n σ β w yH β' w'∧Steps P m (lone (b.atR a' k) cs w')) ∨
  z≠none∧∃ u eL β' a' w' k',Q (.panic u) eL∧lo.n≤eL.σ.length∧Rel X base mb D eL β' a' w'∧Ext lo.n σ β w eL.σ β' w'∧Steps P m (lone { b.atR a' k' with mode:=.panicking [{ v:=u,recovered:=false }] } cs w')
theorem n7.of {b:Frame} {k:List Item} {cs:List Frame} {z:Option Nat} {AZ:List ah} {yH σ σ':ai} {β fy:Env} {w w1:World} {m m1:Machine} (he:Ext lo.n σ β w σ' fy w1) (hs:Steps P m m1) (h:n7 P lo Q X base mb D b k cs z AZ yH σ' fy w1 m1) :
  n7 P lo Q X base mb D b k cs z AZ yH σ β w m:=by
 rcases h with ⟨h0,β',a',w',h1,h2,h3⟩ | ⟨hz,u,eL,β',a',w',k',h0,N_,h1,h2,h3⟩
 ·exact .inl ⟨h0,β',a',w',h1,he.trans h2,hs.trans h3⟩
 ·exact .inr ⟨hz,u,eL,β',a',w',k',h0,N_,h1,he.trans h2,hs.trans h3⟩
theorem Yo4 {z:Option Nat} {dd:Nat→Prop} (hz:∀ i0,z=some i0→i0<ops.size∧dd i0) (hdd:∀ j,dd j→∃ i0,z=some i0∧(j=i0∨kF ops i0 j)) (hk:tY ops fs n0 N) (jg:lo.n≤n0) (hN:n0≤N)
  (hT:∀ i o,ops[i]? = some o→((qD P ops (dK fs i) o (TM i) (SS i) (TM (i+1)) (SS (i+1))∨yI P ops.size o (TM i) SS i (TM (i+1))∧(dK fs i).wr=[])∨dd i∧(∃ v,TM (i+1)=put (TM i) o.dst v)∧SS (i+1)=SS i)) (Ee:∀ i,i≤ops.size→(TM i).length=(TM 0).length) (HP:∀ i,i≤ops.size→(SS i).length=N)
  (b:Frame) (k:List Item) (cs:List Frame)
  (hP:∀ i o,z=some i→ops[i]? = some o→∀ (tm:List ah) (σ:ai) (β:Env) (a:Act) (w:World) (rest:List Nat),(∀ l,l∈o.looksAt ops→tm.getD l .undef=(TM i).getD l .undef)→mN ops tm o=mN ops (TM i) o→(∀ c,c ∉ (dK fs i).hd→σ[c]? = (SS i)[c]?)→σ.length=N→Rel X base mb D ⟨tm,σ⟩ β a w →
   ∃ u eL β' a' w' k',Q (.panic u) eL∧lo.n≤eL.σ.length∧Rel X base mb D eL β' a' w'∧Ext lo.n σ β w eL.σ β' w'∧Steps P (lone (b.atR a (.inRegion ops (i :: rest) :: k)) cs w) (lone { b.atR a' k' with mode:=.panicking [{ v:=u,recovered:=false }] } cs w')) :
  ∀ (fuel t:Nat) (listed:Array Bool) (tm:List ah) (σ:ai) (β:Env) (a:Act) (w:World),listed.size=ops.size→nZ listed≤fuel →
   (∀ i j,kF ops i j→listed.getD j false=true→listed.getD i false=true) →
   gy ops.size (fun i l=>∃ o,ops[i]? = some o∧o.dst=some l) (fun i l=>(TM i).getD l .undef) (fun j=>listed.getD j false=true) (fun l=>tm.getD l .undef) →
   gy ops.size (fun i c=>c∈(dK fs i).wr) (fun i c=>(SS i)[c]?) (fun j=>listed.getD j false=true) (fun c=>σ[c]?) →
   tm.length=(TM 0).length→σ.length=N→(∀ i c,i<ops.size→listed.getD i false=false→(dK fs i).nm=some c→β c=none)→Rel X base mb D ⟨tm,σ⟩ β a w→(∀ j,listed.getD j false=true→¬ dd j) →
   n7 P lo Q X base mb D b k cs z (TM ops.size) (SS ops.size) σ β w (lone (b.atR a (.inRegion ops (Region.linearise.go .any ops fuel t listed []) :: k)) cs w):=by
 have DS:∀ i l,i<ops.size→¬ (∃ o,ops[i]? = some o∧o.dst=some l)→(TM (i+1)).getD l .undef=(TM i).getD l .undef:=by
  intro i l hi hn;have ho:ops[i]? = some ops[i]:=aE hi;have mq:∀ v,(put (TM i) ops[i].dst v).getD l .undef=(TM i).getD l .undef:=by
   intro v;cases hd:ops[i].dst with
   | none=>rfl
   | some d =>
    have eH:d≠l:=fun e=>hn ⟨ops[i],ho,by rw [hd,e]⟩;simp only [put,List.getD,bX eH]
  rcases hT i _ ho with ((⟨_,h,_⟩ | ⟨_,r,dA,_,_,h,_⟩) | ⟨⟨_,_,_,_,_,_,_,_,h,_⟩,_⟩) | ⟨_,⟨_,h⟩,_⟩<;>rw [h]<;>exact mq _
 have Bz:∀ i c,i<ops.size→¬ c∈(dK fs i).wr→(SS (i+1))[c]? = (SS i)[c]?:=by
  intro i c hi hn;have ho:ops[i]? = some ops[i]:=aE hi;rcases hT i _ ho with ((⟨_,_,h⟩ | ⟨_,r,dA,_,h2,_,h⟩) | ⟨⟨_,_,_,_,_,_,_,_,_,h⟩,_⟩) | ⟨_,_,h⟩
  rotate_right
  ·rw [h]
  rotate_right
  ·rw [h]
  ·rw [h]
  ·rw [h,xC (by rw [A4 h2,dM,sZ]),bq,if_neg hn]
 intro fuel;have finish:∀ (listed:Array Bool) (tm:List ah) (σ:ai) (β:Env) (a:Act) (w:World),(∀ j,j<ops.size→listed.getD j false=true) →
   gy ops.size (fun i l=>∃ o,ops[i]? = some o∧o.dst=some l) (fun i l=>(TM i).getD l .undef) (fun j=>listed.getD j false=true) (fun l=>tm.getD l .undef) →
   gy ops.size (fun i c=>c∈(dK fs i).wr) (fun i c=>(SS i)[c]?) (fun j=>listed.getD j false=true) (fun c=>σ[c]?) →
   tm.length=(TM 0).length→σ.length=N→Rel X base mb D ⟨tm,σ⟩ β a w→(∀ j,listed.getD j false=true→¬ dd j) →
   n7 P lo Q X base mb D b k cs z (TM ops.size) (SS ops.size) σ β w (lone (b.atR a (.inRegion ops [] :: k)) cs w):=by
  intro listed tm σ β a w fq i1 i2 l1 l2 hrel sd;have Ie:z=none:=by
   cases BV:z with
   | none=>rfl
   | some i0=>obtain ⟨q1,q2⟩:=hz i0 BV;exact absurd q2 (sd i0 (fq i0 q1))
  have e1:tm=TM ops.size:=by
   apply b_;intro l;have h1:tm.getD l .undef=(TM ops.size).getD l .undef:=gy.done DS i1 fq l;have hl:=Ee ops.size (ae _);by_cases bA:l<tm.length
   ·have aU:l<(TM ops.size).length:=by omega
    rw [av bA,av aU];simp only [List.getD,av bA,av aU,bx] at h1;rw [h1]
   ·rw [bt (by omega),bt (by omega)]
  have e2 : σ=SS ops.size:=by
   apply b_;intro c;exact gy.done Bz i2 fq c
  subst e1 e2;exact .inl ⟨Ie,β,a,w,hrel,Ext.refl _ _ _ _, .one stepR_region_end⟩
 induction fuel with
 | zero =>
  intro t listed tm σ β a w fJ zw gV i1 i2 l1 l2 uj hrel sd;simp only [Region.linearise.go,lZ];exact finish listed tm σ β a w (fun j hj=>LS (by omega) (by omega)) i1 i2 l1 l2 hrel sd
 | succ fuel ih =>
  intro t listed tm σ β a w fJ zw gV i1 i2 l1 l2 uj hrel sd;simp only [Region.linearise.go];change n7 P lo Q X base mb D b k cs z (TM ops.size) (SS ops.size) σ β w (lone (b.atR a (.inRegion ops (match (Region.ready .any ops listed)[t % (Region.ready .any ops listed).length]? with
   | some i=>Region.linearise.go .any ops fuel (t / (Region.ready .any ops listed).length) (listed.setIfInBounds i true) [i]
   | none=>[].reverse) :: k)) cs w)
  cases hi:(Region.ready .any ops listed)[t % (Region.ready .any ops listed).length]? with
  | none =>
   have zm:Region.ready .any ops listed=[]:=by
    cases hr:Region.ready .any ops listed with
    | nil=>rfl
    | cons x xs =>
     rw [hr] at hi;have bA:t % (x :: xs).length<(x :: xs).length:=Nat.mod_lt _ (by simp);simp at hi;simp at bA;omega
   refine finish listed tm σ β a w (fun j=>?_) i1 i2 l1 l2 hrel sd
   induction j using Nat.strongRecOn with
   | _ j P4 =>
    intro hj;cases hv:listed.getD j false with
    | true=>rfl
    | false =>
     have jX:j∈Region.ready .any ops listed:=mem_ready.2 ⟨by
      have:j<listed.size:=by omega
      simpa [this] using hv,ops[j],aE hj,fun e he hb=>by
       have bA:e.on<j:=(kF.edge (aE hj) he hb).lt hk.down;exact P4 e.on bA (by omega)⟩
     rw [zm] at jX;cases jX
  | some i =>
   simp only [];rw [linearise_go_acc,pX,qP];obtain ⟨BS,o,ho,fq⟩:=mem_ready.1 (mf hi);have fD:i<ops.size:=(aO.1 ho).1;have yb:listed.getD i false=false:=by
    have:i<listed.size:=by omega
    simpa [this] using BS
   have rC:¬ (listed.getD i false=true):=by rw [yb];simp
   have aN:∀ j,kF ops j i→listed.getD j false=true:=by
    intro j hb;generalize dZ:i=i' at hb
    induction hb with
    | @edge j' o' e h1 h2 h3 =>
     subst dZ;rw [ho] at h1;cases h1;exact fq e h2 h3
    | trans h1 h2 _ pq=>exact gV _ _ h1 (pq dZ)
   have vz:∀ l,l∈o.looksAt ops∨o.dst=some l→∀ j,j<ops.size→j≠i→(∃ oj,ops[j]? = some oj∧oj.dst=some l)→kF ops i j∨kF ops j i:=by
    rintro l hl j hj eH ⟨oj,h1,h2⟩;exact hk.tmp i o ho l hl j oj h1 eH h2
   have qH:∀ l,l∈o.looksAt ops→tm.getD l .undef=(TM i).getD l .undef:=fun l hl=>gy.read hk.down DS gV i1 fD rC aN (vz l (.inl hl));have xv:∀ c,c ∉ (dK fs i).hd→σ[c]? = (SS i)[c]?:=fun c hc=>gy.read hk.down Bz gV i2 fD rC aN (hk.see i fD c hc);have O8:=Ee i (by omega);have Ed:=HP i (by omega);have vu:dM (dK fs i) σ=dM (dK fs i) (SS i):=by
    apply b_;intro c;simp only [dM,w9,bq];by_cases hc:c∈(dK fs i).hd
    ·have e:(!(dK fs i).hd.contains c)=false:=by simp [hc]
     rw [e];by_cases bA:c<N
     ·rw [av (l:=σ) (by omega),av (l:=SS i) (by omega)];rfl
     ·rw [bt (l:=σ) (by omega),bt (l:=SS i) (by omega)]
    ·rw [xv c hc]
   have ff:(dK fs i).name σ=(dK fs i).name (SS i):=by simp only [Fp.name,l2,Ed]
   have r7:mN ops tm o=mN ops (TM i) o:=Vi (by omega) qH;have mq:∀ (l:Nat) (v:ah),(∃ o',ops[i]? = some o'∧o'.dst=some l)→(put tm o.dst v).getD l .undef=(put (TM i) o.dst v).getD l .undef:=by
    rintro l v ⟨o',h1,h2⟩;rw [ho] at h1;cases h1;rw [h2];simp only [put,List.getD,py];by_cases bA:l<tm.length
    ·rw [av bA,av (show l<(TM i).length by omega)];rfl
    ·rw [bt (eA bA),bt (show (TM i).length≤l by omega)]
   have sl:∀ (l:Nat) (v:ah), ¬ (∃ o',ops[i]? = some o'∧o'.dst=some l)→(put tm o.dst v).getD l .undef=tm.getD l .undef:=by
    intro l v hn;cases hd:o.dst with
    | none=>rfl
    | some d =>
     have eH:d≠l:=fun e=>hn ⟨o,ho,by rw [hd,e]⟩;simp only [put,List.getD,bX eH]
   have gS:∀ j,((listed.setIfInBounds i true).getD j false=true)↔(listed.getD j false=true∨j=i):=by
    intro j;constructor
    ·intro h;by_cases e:i=j
     ·exact .inr e.symm
     ·rw [rH false e] at h;exact .inl h
    ·rintro (h | rfl)
     ·exact getD_set_true h
     ·have:j<listed.size:=by omega
      simp [this]
   have y3:(fun j=>(listed.setIfInBounds i true).getD j false=true)=fun j=>listed.getD j false=true∨j=i:=funext fun j=>propext (gS j);have wC:∀ i' j,kF ops i' j→(listed.setIfInBounds i true).getD j false=true→(listed.setIfInBounds i true).getD i' false=true:=by
    intro i' j hb hj;rw [gS] at hj ⊢;rcases hj with hj | rfl
    ·exact .inl (gV i' j hb hj)
    ·exact .inl (aN i' hb)
   have DT:=hT i o ho;by_cases DX:dd i
   ·obtain ⟨i0,Ey,Av⟩:=hdd i DX;rcases Av with rfl | hb
    ·exact .inr ⟨by rw [Ey];simp,hP i o Ey ho tm σ β a w _ qH r7 xv l2 hrel⟩
    ·exact absurd (hz i0 Ey).2 (sd i0 (aN i0 hb))
   have DT:=DT.resolve_right fun h=>DX h.1;generalize oO:Region.linearise.go .any ops fuel (t / (Region.ready .any ops listed).length) (listed.setIfInBounds i true) []=rest;have step:∃ j6 σ' fy a1 w1,Rel X base mb D ⟨j6,σ'⟩ fy a1 w1∧Ext 0 σ β w σ' fy w1∧(∀ c,c≠(dK fs i).name σ→c < σ.length→fy c = β c)∧j6.length=tm.length∧σ'.length = σ.length ∧
     (∀ l,(∃ o',ops[i]? = some o'∧o'.dst=some l)→j6.getD l .undef=(TM (i+1)).getD l .undef)∧(∀ l, ¬ (∃ o',ops[i]? = some o'∧o'.dst=some l)→j6.getD l .undef=tm.getD l .undef) ∧
     (∀ c,c∈(dK fs i).wr→σ'[c]? = (SS (i+1))[c]?)∧(∀ c,c ∉ (dK fs i).wr→σ'[c]? = σ[c]?) ∧
     Steps P (lone (b.atR a (.inRegion ops (i :: rest) :: k)) cs w) (lone (b.atR a1 (.inRegion ops rest :: k)) cs w1):=by
    rcases DT with (⟨g1,g2,g3⟩ | ⟨g1,r,dA,g2,g3,g4,g5⟩) | ⟨⟨g1,t0,x0,l0,r,g2,g3,g4,g5,g6⟩,g7⟩
    rotate_right
    ·have BF:mN ops tm o=some true:=by unfold mN;rw [g1]
     have hx:ev tm x0=ev (TM i) x0:=JL qH x0 (by rw [g2];simp [Op.operands]);obtain ⟨b0,yw⟩:=UN l0 (ev (TM i) x0);obtain ⟨k0,D9,ow⟩:=i2.some b0;have sd:jv σ l0 (ev tm x0)=some r:=by rw [hx,yw σ (SS k0) ow];exact g4 k0 D9
     have DY:ln P o.op tm (dM Fp.no σ) (Fp.no.name σ) r σ:=by
      have tH:dM Fp.no σ = σ:=by
       apply b_;intro c;simp only [dM,w9,bq,Fp.no];cases σ[c]?<;>rfl
      rw [tH,g2];simp only [ln,dt,g3,fb,sd,bM]
     have um:fB Fp.no.wr 0 σ (dM Fp.no σ):=by
      have tH:dM Fp.no σ = σ:=by
       apply b_;intro c;simp only [dM,w9,bq,Fp.no];cases σ[c]?<;>rfl
      rw [tH];have:∀ (i:Nat) (a:ai),fB Fp.no.wr i a a:=fun i a=>by
       induction a generalizing i with
       | nil=>trivial
       | cons x a ih=>exact ⟨.inr rfl,ih _⟩
      exact this 0 σ
     obtain ⟨fy,a1,w1,q1,q2,q3,q4⟩:=ln.step (rest:=rest) hrel ho BF DY um (fun c hc=>by simp [Fp.no] at hc) (hrel.s.oo _ (ae _)) b k cs;have Pg:dX Fp.no.wr 0 σ σ = σ:=by
      apply b_;intro c;rw [xC rfl];split<;>rfl
     rw [Pg] at q1 q2;refine ⟨_,σ,fy,a1,w1,q1,q2,fun c _ hc=>q3 c (by simp only [Fp.name,Fp.no,eB];omega) hc,z8 _ _ _,rfl,fun l hl=>by rw [g5];exact mq l _ hl,fun l hl=>sl l _ hl,fun c hc=>?_,fun _ _=>rfl,q4⟩;rw [g7] at hc;cases hc
    ·have hw:=A0 hrel (r7.trans g1);refine ⟨put tm o.dst gone,σ,β,a.put o.dst undef,w,hrel.next hrel.s (Ext.refl 0 _ _ _) (fun _ _ h=>h) (.oD _) o.dst,Ext.refl _ _ _ _,fun _ _ _=>rfl,z8 _ _ _,rfl,
      fun l hl=>by rw [g2];exact mq l _ hl,fun l hl=>sl l _ hl,fun c hc=>?_,fun _ _=>rfl,?_⟩
     ·rw [g3];exact gy.read hk.down Bz gV i2 fD rC aN (hk.own i fD c hc).2.2
     ·have:=stepR_op_skip (P:=P) (b:=b) (a:=a) (ops:=ops) (i:=i) (rest:=rest) (k:=k) (cs:=cs) (w:=w) (by simp [ho,hw]);rw [ho] at this;exact .one this
    ·have DY:ln P o.op tm (dM (dK fs i) σ) ((dK fs i).name σ) r dA:=by
      rw [vu,ff];exact g2.congr (JL qH)
     have um:fB (dK fs i).wr 0 dA (dM (dK fs i) σ):=by rw [vu];exact g3
     have zn : β ((dK fs i).name σ)=none:=by
      unfold Fp.name;cases hn:(dK fs i).nm with
      | none=>exact hrel.s.oo _ (ae _)
      | some c=>exact uj i c fD yb hn
     have uJ : dA.length = σ.length:=by rw [A4 um,dM,sZ]
     have Ec : dA.length=(SS i).length:=by omega
     obtain ⟨fy,a1,w1,q1,q2,q3,q4⟩:=ln.step (rest:=rest) hrel ho (r7.trans g1) DY um (fun c hc=>(hk.own i fD c hc).2.1) zn b k cs;refine ⟨_,_,fy,a1,w1,q1,q2,q3,z8 _ _ _,IY uJ,fun l hl=>by rw [g4];exact mq l _ hl,fun l hl=>sl l _ hl,fun c hc=>?_,fun c hc=>?_,q4⟩
     ·rw [g5,xC uJ,xC Ec,bq,if_pos hc,if_pos hc]
     ·rw [xC uJ,bq,if_neg hc]
   obtain ⟨j6,σ',fy,a1,w1,s1,s2,s3,s4,s5,s6,s7,s8,s9,Qh⟩:=step;have nw:=ih (t / (Region.ready .any ops listed).length) (listed.setIfInBounds i true) j6 σ' fy a1 w1 (by simp [fJ]) (by have:=Jb BS;omega) wC
    (by rw [y3];exact gy.step hk.down gV i1 fD rC (fun l hl=>vz l (.inr (by obtain ⟨o',h1,h2⟩:=hl;rw [ho] at h1;cases h1;exact h2))) s6 s7)
    (by rw [y3];exact gy.step hk.down gV i2 fD rC (fun c hc=>(hk.own i fD c hc).2.2) s8 s9)
    (by omega) (by omega)
    (fun j c hj yy H0=>by
     have CM:j≠i:=fun e=>by rw [e] at yy;have:=(gS i).2 (.inr rfl);rw [this] at yy;cases yy
     have Ef:listed.getD j false=false:=by rw [rH false (gQ CM)] at yy;exact yy
     obtain ⟨m1,m2,m3⟩:=hk.F5 j hj c H0;rw [s3 c ?_ (by omega)]
     ·exact uj j c hj Ef H0
     ·unfold Fp.name;cases hn:(dK fs i).nm with
      | none=>simp only [eB];omega
      | some c'=>exact fun e=>m3 i fD (gQ CM) (by rw [hn,e];rfl)) s1
    (fun j hj=>by rcases (gS j).1 hj with h | rfl;exact sd j h;exact DX)
   rw [oO] at nw;have ky:Ext lo.n σ β w σ' fy w1:=⟨s2.os,s2.tape,s2.output,s2.size,s2.cell,s2.block,s2.jb,fun c hc=>s3 c (by
    unfold Fp.name;cases hn:(dK fs i).nm with
    | none=>simp only [eB];omega
    | some c'=>have:=(hk.F5 i fD c' hn).1;simp only [bx];omega) (by omega)⟩
   exact nw.of ky Qh
theorem Ygr (hk:tY ops fs n0 N) (jg:lo.n≤n0) (hN:n0≤N) (hT:∀ i o,ops[i]? = some o→qD P ops (dK fs i) o (TM i) (SS i) (TM (i+1)) (SS (i+1))∨yI P ops.size o (TM i) SS i (TM (i+1))∧(dK fs i).wr=[]) (Ee:∀ i,i≤ops.size→(TM i).length=(TM 0).length) (HP:∀ i,i≤ops.size→(SS i).length=N)
  (b:Frame) (k:List Item) (cs:List Frame) (fuel t:Nat) (listed:Array Bool) (tm:List ah) (σ:ai) (β:Env) (a:Act) (w:World) (h1:listed.size=ops.size) (h2:nZ listed≤fuel)
  (h3:∀ i j,kF ops i j→listed.getD j false=true→listed.getD i false=true)
  (h4:gy ops.size (fun i l=>∃ o,ops[i]? = some o∧o.dst=some l) (fun i l=>(TM i).getD l .undef) (fun j=>listed.getD j false=true) (fun l=>tm.getD l .undef))
  (h5:gy ops.size (fun i c=>c∈(dK fs i).wr) (fun i c=>(SS i)[c]?) (fun j=>listed.getD j false=true) (fun c=>σ[c]?))
  (h6:tm.length=(TM 0).length) (h7 : σ.length=N) (h8:∀ i c,i<ops.size→listed.getD i false=false→(dK fs i).nm=some c→β c=none) (h9:Rel X base mb D ⟨tm,σ⟩ β a w) :
   ∃ β' a' w',Rel X base mb D ⟨TM ops.size,SS ops.size⟩ β' a' w'∧Ext lo.n σ β w (SS ops.size) β' w' ∧
    Steps P (lone (b.atR a (.inRegion ops (Region.linearise.go .any ops fuel t listed []) :: k)) cs w) (lone (b.atR a' k) cs w'):=by
 rcases Yo4 (lo:=lo) (Q:=fun _ _=>False) (z:=none) (dd:=fun _=>False) (fun _ h=>by cases h) (fun _ h=>h.elim) hk jg hN (fun i o hi=>.inl (hT i o hi)) Ee HP b k cs (fun _ _ h=>by cases h) fuel t listed tm σ β a w h1 h2 h3 h4 h5 h6 h7 h8 h9 (fun _ _ h=>h) with ⟨_,h⟩ | ⟨h,_⟩
 ·exact h
 ·exact absurd rfl h
theorem aG.draw {k:List KI} {id:Nat} {tm:List ah} {σ:ai} (fs:List Fp) (n0 N:Nat) (hm:P.follows .mixedOrders=true) (jA:rU ops fs n0 N=true) (h0 : σ.length=n0) (hN:n0≤N) (h:iT P lo Q k ops ops.toList fs tm (da N σ)) :
  aG P lo Q (.code (.region id ops true) :: k) .normal ⟨tm,σ⟩:=by
 have hk:=TC jA;obtain ⟨TM,SS,e1,e2,e3,e4⟩:=I0 _ _ _ _ h;have hlen:ops.toList.length=ops.size:=by simp
 rw [hlen] at e4;have hT:∀ i o,ops[i]? = some o→qD P ops (dK fs i) o (TM i) (SS i) (TM (i+1)) (SS (i+1)):=fun i o hi=>e3 i o (by simpa using hi);have hl:∀ i,i≤ops.size→(TM i).length=(TM 0).length∧(SS i).length=N:=by
  intro i
  induction i with
  | zero=>intro _;exact ⟨rfl,by rw [e2,MG (by omega)]⟩
  | succ i ih =>
   intro hi;have:=(hT i ops[i] (aE (by omega))).len;have:=ih (by omega);omega
 intro X base mb D β a w b kk cs h1 h2 h3 _;simp only at h1;have hrel:Rel X base mb D ⟨TM 0,SS 0⟩ β a { w with drawn:=w.drawn+1 }:=by
  have:=UO (n:=w.drawn+1) h3;rw [e1,e2];exact ⟨this.s.pad (by simp only;omega),this.n,fun j hj=>by rw [KT];exact this.t j hj,this.d⟩
 obtain ⟨β',a',w',r1,r2,r3⟩:=Ygr (lo:=lo) hk (by omega) hN (fun i o hi=>.inl (hT i o hi)) (fun i hi=>(hl i hi).1) (fun i hi=>(hl i hi).2) b kk cs ops.size (w.tape w.drawn (.order b.fn id)) (Array.replicate ops.size false) (TM 0) (SS 0) β a { w with drawn:=w.drawn+1 } (by simp)
  (by simp [nZ]) (fun i j _ hj=>by simp [ak,eM] at hj;split at hj<;>simp at hj)
  (by
   have:(fun j=>(Array.replicate ops.size false).getD j false=true)=fun _=>False:=funext fun j=>by simp [ak,eM];split<;>simp
   rw [this];exact gy.init)
  (by
   have:(fun j=>(Array.replicate ops.size false).getD j false=true)=fun _=>False:=funext fun j=>by simp [ak,eM];split<;>simp
   rw [this];exact gy.init)
  rfl (hl 0 (au _)).2 (fun i c hi _ hc=>h3.s.oo c (by simp only;have:=(hk.F5 i hi c hc).1;omega)) hrel
 rw [e2] at r2;refine ⟨.normal,⟨TM ops.size,SS ops.size⟩,β',a',w',e4,?_,r1,?_, .head stepR_region_draw ?_⟩
 ·have:=(hl ops.size (ae _)).2;simp only;omega
 ·exact ⟨r2.os,r2.tape,r2.output,r2.size,fun g o v hc hn=>r2.cell g o v hc fun hm=>hn (Dm.1 hm),fun g hg hn=>r2.block g hg fun o hm=>hn o (Dm.1 hm),fun g o hm=>(r2.jb g o hm).imp Dm.1 (fun h=>h),r2.env⟩
 ·have hs:Region.schedule (P.follows .mixedOrders) ops (w.tape w.drawn (.order b.fn id))=Region.linearise.go .any ops ops.size (w.tape w.drawn (.order b.fn id)) (Array.replicate ops.size false) []:=by
   simp only [Region.schedule,hm,fM,if_true];rfl
  rw [hs];exact r3
end
end Go.dm
