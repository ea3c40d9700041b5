/- Part 25 of my own framework and of the walks of functions: AbsZ. -/
import Derived.Test.YtfjbdamcmiglgaaGreatOwn24
abbrev eg:=@Array.getElem?_replicate
abbrev fU:=@Bool.true_or
abbrev qH:=@Go.getD_set_ne
abbrev oV:=@List.getElem?_set_self'
abbrev lY:=@List.mem_of_getElem?
abbrev lR:=@List.reverse_nil
abbrev pB:=@List.reverse_singleton
abbrev qg:=@List.singleton_append
abbrev eB:=@Option.getD_none
set_option linter.unusedVariables false
set_option linter.unusedSectionVars false
set_option linter.unusedSimpArgs false
namespace Go.c8
open Go
def nA (listed:Array Bool):Nat:=listed.toList.count false
theorem Ij {listed:Array Bool} {i:Nat} (h:listed.getD i true=false):nA (listed.setIfInBounds i true)+1=nA listed:=by
 have hi:i<listed.size:=by
  refine jJ fun hle=>?_
  simp [Array.getElem?_eq_none hle] at h
 have hv:listed.toList[i]'(by simpa using hi)=false:=by simpa [hi] using h
 simp only [nA,Array.toList_setIfInBounds]
 rw [List.count_set (by simpa using hi),hv]
 have : 0<listed.toList.count false:=List.count_pos_iff.2 (hv ▸ aE _)
 rw [show (true==false)=false from rfl]
 simp only [beq_self_eq_true,if_true,a_,if_false]
 omega
theorem Kx {listed:Array Bool} (h:nA listed=0) {j:Nat} (hj:j<listed.size):listed.getD j false=true:=by
 have:false ∉ listed.toList:=List.count_eq_zero.1 h
 cases hv:listed[j] with
 | true=>simp [hj,hv]
 | false=>exact absurd (by rw [← hv];simp) this
theorem fV.some {V:Type} {m:Nat} {wr:Nat→Nat→Prop} {S:Nat→Nat→V} {D:Nat→Prop} {s:Nat→V} (h:fV m wr S D s) (l:Nat):∃ k,k≤m∧s l=S k l:=by
 rcases Ko (wr:=fun j l=>D j∧wr j l) l m with h1 | ⟨j,h1,⟨h2,uY⟩,h3⟩
 ·exact ⟨0,av _,(h l).1 fun j hj vA hw=>h1 j hj ⟨vA,hw⟩⟩
 ·exact ⟨j+1,h1,(h l).2 j h1 h2 uY fun j' rO MI xh=>dS fun bG=>h3 j' bG rO ⟨MI,xh⟩⟩
theorem T9 (l:eM) (p:ae):∃ b:Nat, ∀ σ σ':ai,σ[b]? = σ'[b]?→jf σ l p=jf σ' l p:=by
 cases p with
 | ptr b off=>exact ⟨b,fun σ σ' h=>by simp only [jf,bH,h]⟩
 | rp b i f=>exact ⟨b,fun σ σ' h=>by simp only [jf,bH,h]⟩
 | _=>exact ⟨0,fun _ _ _=>rfl⟩
def xO (P:Program) (m:Nat) (o:Oper) (tm:List ae) (SS:Nat→ai) (i:Nat) (jR:List ae):Prop :=
 o.guard=none∧∃ t x l r,o.op = .load t x∧aF P t=some l∧(∀ k,k≤m→jf (SS k) l (ev tm x)=some r)∧jR=put tm o.dst r∧SS (i+1)=SS i
section
variable {P:Program} {lo:Ctx} {Q:cb→St→Prop} {ops:Array Oper} {fs:List Fp} {n0 N:Nat} {TM:Nat→List ae} {SS:Nat→ai} {X:Nat→Nat→Prop} {base mb:Nat} {D:List Deferred}
def nG (P:Program) (lo:Ctx) (Q:cb→St→Prop) (X:Nat→Nat→Prop) (base mb:Nat) (D:List Deferred) (b:Frame) (k:List Item) (cs:List Frame) (z:Option Nat) (zR:List ae) (xN σ:ai) (β:Env) (w:World) (m:Machine):Prop :=
 (z=none∧∃ β' a' w',Rel X base mb D ⟨zR,xN⟩ β' a' w'∧Ext lo.n σ β w xN β' w'∧Steps P m (lone (b.atR a' k) cs w')) ∨
  z≠none∧∃ u ef β' a' w' k',Q (.panic u) ef∧lo.n≤ef.σ.length∧Rel X base mb D ef β' a' w'∧Ext lo.n σ β w ef.σ β' w'∧Steps P m (lone { b.atR a' k' with mode:=.panicking [{ v:=u,recovered:=false }] } cs w')
theorem nG.of {b:Frame} {k:List Item} {cs:List Frame} {z:Option Nat} {zR:List ae} {xN σ σ':ai} {β eX:Env} {w w1:World} {m m1:Machine} (he:Ext lo.n σ β w σ' eX w1) (hs:Steps P m m1) (h:nG P lo Q X base mb D b k cs z zR xN σ' eX w1 m1) :
  nG P lo Q X base mb D b k cs z zR xN σ β w m:=by
 rcases h with ⟨h0,β',a',w',h1,h2,h3⟩ | ⟨hz,u,ef,β',a',w',k',h0,MC,h1,h2,h3⟩
 ·exact .inl ⟨h0,β',a',w',h1,he.trans h2,hs.trans h3⟩
 ·exact .inr ⟨hz,u,ef,β',a',w',k',h0,MC,h1,he.trans h2,hs.trans h3⟩
theorem Ym3 {z:Option Nat} {dd:Nat→Prop} (hz:∀ i0,z=some i0→i0<ops.size∧dd i0) (hdd:∀ j,dd j→∃ i0,z=some i0∧(j=i0∨km ops i0 j)) (hk:sM ops fs n0 N) (iU:lo.n≤n0) (hN:n0≤N)
  (hT:∀ i o,ops[i]? = some o→((p5 P ops (dw fs i) o (TM i) (SS i) (TM (i+1)) (SS (i+1))∨xO P ops.size o (TM i) SS i (TM (i+1))∧(dw fs i).wr=[])∨dd i∧(∃ v,TM (i+1)=put (TM i) o.dst v)∧SS (i+1)=SS i)) (Di:∀ i,i≤ops.size→(TM i).length=(TM 0).length) (GV:∀ i,i≤ops.size→(SS i).length=N)
  (b:Frame) (k:List Item) (cs:List Frame)
  (hP:∀ i o,z=some i→ops[i]? = some o→∀ (tm:List ae) (σ:ai) (β:Env) (a:Act) (w:World) (rest:List Nat),(∀ l,l∈o.looksAt ops→tm.getD l .undef=(TM i).getD l .undef)→my ops tm o=my ops (TM i) o→(∀ c,c ∉ (dw fs i).hd→σ[c]? = (SS i)[c]?)→σ.length=N→Rel X base mb D ⟨tm,σ⟩ β a w →
   ∃ u ef β' a' w' k',Q (.panic u) ef∧lo.n≤ef.σ.length∧Rel X base mb D ef β' a' w'∧Ext lo.n σ β w ef.σ β' w'∧Steps P (lone (b.atR a (.inRegion ops (i :: rest) :: k)) cs w) (lone { b.atR a' k' with mode:=.panicking [{ v:=u,recovered:=false }] } cs w')) :
  ∀ (fuel t:Nat) (listed:Array Bool) (tm:List ae) (σ:ai) (β:Env) (a:Act) (w:World),listed.size=ops.size→nA listed≤fuel →
   (∀ i j,km ops i j→listed.getD j false=true→listed.getD i false=true) →
   fV ops.size (fun i l=>∃ o,ops[i]? = some o∧o.dst=some l) (fun i l=>(TM i).getD l .undef) (fun j=>listed.getD j false=true) (fun l=>tm.getD l .undef) →
   fV ops.size (fun i c=>c∈(dw fs i).wr) (fun i c=>(SS i)[c]?) (fun j=>listed.getD j false=true) (fun c=>σ[c]?) →
   tm.length=(TM 0).length→σ.length=N→(∀ i c,i<ops.size→listed.getD i false=false→(dw fs i).nm=some c→β c=none)→Rel X base mb D ⟨tm,σ⟩ β a w→(∀ j,listed.getD j false=true→¬ dd j) →
   nG P lo Q X base mb D b k cs z (TM ops.size) (SS ops.size) σ β w (lone (b.atR a (.inRegion ops (Region.linearise.go .any ops fuel t listed []) :: k)) cs w):=by
 have C0:∀ i l,i<ops.size→¬ (∃ o,ops[i]? = some o∧o.dst=some l)→(TM (i+1)).getD l .undef=(TM i).getD l .undef:=by
  intro i l hi hn
  have ho:ops[i]? = some ops[i]:=aD hi
  have k_:∀ v,(put (TM i) ops[i].dst v).getD l .undef=(TM i).getD l .undef:=by
   intro v
   cases hd:ops[i].dst with
   | none=>rfl
   | some d =>
    have ep:d≠l:=fun e=>hn ⟨ops[i],ho,by rw [hd,e]⟩
    simp only [put,List.getD,bM ep]
  rcases hT i _ ho with ((⟨_,h,_⟩ | ⟨_,r,dk,_,_,h,_⟩) | ⟨⟨_,_,_,_,_,_,_,_,h,_⟩,_⟩) | ⟨_,⟨_,h⟩,_⟩<;>rw [h]<;>exact k_ _
 have AF:∀ i c,i<ops.size→¬ c∈(dw fs i).wr→(SS (i+1))[c]? = (SS i)[c]?:=by
  intro i c hi hn
  have ho:ops[i]? = some ops[i]:=aD hi
  rcases hT i _ ho with ((⟨_,_,h⟩ | ⟨_,r,dk,_,h2,_,h⟩) | ⟨⟨_,_,_,_,_,_,_,_,_,h⟩,_⟩) | ⟨_,_,h⟩
  rotate_right
  ·rw [h]
  rotate_right
  ·rw [h]
  ·rw [h]
  ·rw [h,wP (by rw [zZ h2,dy,rV]),bp,if_neg hn]
 intro fuel
 have finish:∀ (listed:Array Bool) (tm:List ae) (σ:ai) (β:Env) (a:Act) (w:World),(∀ j,j<ops.size→listed.getD j false=true) →
   fV ops.size (fun i l=>∃ o,ops[i]? = some o∧o.dst=some l) (fun i l=>(TM i).getD l .undef) (fun j=>listed.getD j false=true) (fun l=>tm.getD l .undef) →
   fV ops.size (fun i c=>c∈(dw fs i).wr) (fun i c=>(SS i)[c]?) (fun j=>listed.getD j false=true) (fun c=>σ[c]?) →
   tm.length=(TM 0).length→σ.length=N→Rel X base mb D ⟨tm,σ⟩ β a w→(∀ j,listed.getD j false=true→¬ dd j) →
   nG P lo Q X base mb D b k cs z (TM ops.size) (SS ops.size) σ β w (lone (b.atR a (.inRegion ops [] :: k)) cs w):=by
  intro listed tm σ β a w e8 i1 i2 l1 l2 hrel qZ
  have Hi:z=none:=by
   cases A2:z with
   | none=>rfl
   | some i0=>obtain ⟨q1,q2⟩:=hz i0 A2;exact absurd q2 (qZ i0 (e8 i0 q1))
  have e1:tm=TM ops.size:=by
   apply bQ
   intro l
   have h1:tm.getD l .undef=(TM ops.size).getD l .undef:=fV.done C0 i1 e8 l
   have hl:=Di ops.size (ah _)
   by_cases bG:l<tm.length
   ·have aZ:l<(TM ops.size).length:=by omega
    rw [aA bG,aA aZ]
    simp only [List.getD,aA bG,aA aZ,br] at h1
    rw [h1]
   ·rw [bt (by omega),bt (by omega)]
  have e2 : σ=SS ops.size:=by
   apply bQ
   intro c
   exact fV.done AF i2 e8 c
  subst e1 e2
  exact .inl ⟨Hi,β,a,w,hrel,Ext.refl _ _ _ _, .one stepR_region_end⟩
 induction fuel with
 | zero =>
  intro t listed tm σ β a w fH yH gD i1 i2 l1 l2 s0 hrel qZ
  simp only [Region.linearise.go,lR]
  exact finish listed tm σ β a w (fun j hj=>Kx (by omega) (by omega)) i1 i2 l1 l2 hrel qZ
 | succ fuel ih =>
  intro t listed tm σ β a w fH yH gD i1 i2 l1 l2 s0 hrel qZ
  simp only [Region.linearise.go]
  change nG P lo Q X base mb D b k cs z (TM ops.size) (SS ops.size) σ β w (lone (b.atR a (.inRegion ops (match (Region.ready .any ops listed)[t % (Region.ready .any ops listed).length]? with
   | some i=>Region.linearise.go .any ops fuel (t / (Region.ready .any ops listed).length) (listed.setIfInBounds i true) [i]
   | none=>[].reverse) :: k)) cs w)
  cases hi:(Region.ready .any ops listed)[t % (Region.ready .any ops listed).length]? with
  | none =>
   have yz:Region.ready .any ops listed=[]:=by
    cases hr:Region.ready .any ops listed with
    | nil=>rfl
    | cons x xs =>
     rw [hr] at hi
     have bG:t % (x :: xs).length<(x :: xs).length:=Nat.mod_lt _ (by simp)
     simp at hi
     simp at bG
     omega
   refine finish listed tm σ β a w (fun j=>?_) i1 i2 l1 l2 hrel qZ
   induction j using Nat.strongRecOn with
   | _ j Oi =>
    intro hj
    cases hv:listed.getD j false with
    | true=>rfl
    | false =>
     have jM:j∈Region.ready .any ops listed:=mem_ready.2 ⟨by
      have:j<listed.size:=by omega
      simpa [this] using hv,ops[j],aD hj,fun e he hb=>by
       have bG:e.on<j:=(km.edge (aD hj) he hb).lt hk.down
       exact Oi e.on bG (by omega)⟩
     rw [yz] at jM;cases jM
  | some i =>
   simp only []
   rw [linearise_go_acc,pB,qg]
   obtain ⟨AZ,o,ho,e8⟩:=mem_ready.1 (lY hi)
   have fE:i<ops.size:=(aL.1 ho).1
   have xg:listed.getD i false=false:=by
    have:i<listed.size:=by omega
    simpa [this] using AZ
   have r6:¬ (listed.getD i false=true):=by rw [xg];simp
   have aQ:∀ j,km ops j i→listed.getD j false=true:=by
    intro j hb
    generalize dV:i=i' at hb
    induction hb with
    | @edge j' o' e h1 h2 h3 =>
     subst dV
     rw [ho] at h1;cases h1
     exact e8 e h2 h3
    | trans h1 h2 _ oP=>exact gD _ _ h1 (oP dV)
   have uA:∀ l,l∈o.looksAt ops∨o.dst=some l→∀ j,j<ops.size→j≠i→(∃ oj,ops[j]? = some oj∧oj.dst=some l)→km ops i j∨km ops j i:=by
    rintro l hl j hj ep ⟨oj,h1,h2⟩
    exact hk.tmp i o ho l hl j oj h1 ep h2
   have qa:∀ l,l∈o.looksAt ops→tm.getD l .undef=(TM i).getD l .undef:=fun l hl=>fV.read hk.down C0 gD i1 fE r6 aQ (uA l (.inl hl))
   have wL:∀ c,c ∉ (dw fs i).hd→σ[c]? = (SS i)[c]?:=fun c hc=>fV.read hk.down AF gD i2 fE r6 aQ (hk.see i fE c hc)
   have Nu:=Di i (by omega)
   have Dh:=GV i (by omega)
   have uz:dy (dw fs i) σ=dy (dw fs i) (SS i):=by
    apply bQ
    intro c
    simp only [dy,wj,bp]
    by_cases hc:c∈(dw fs i).hd
    ·have e:(!(dw fs i).hd.contains c)=false:=by simp [hc]
     rw [e]
     by_cases bG:c<N
     ·rw [aA (l:=σ) (by omega),aA (l:=SS i) (by omega)];rfl
     ·rw [bt (l:=σ) (by omega),bt (l:=SS i) (by omega)]
    ·rw [wL c hc]
   have eI:(dw fs i).name σ=(dw fs i).name (SS i):=by simp only [Fp.name,l2,Dh]
   have tE:my ops tm o=my ops (TM i) o:=Ti (by omega) qa
   have k_:∀ (l:Nat) (v:ae),(∃ o',ops[i]? = some o'∧o'.dst=some l)→(put tm o.dst v).getD l .undef=(put (TM i) o.dst v).getD l .undef:=by
    rintro l v ⟨o',h1,h2⟩
    rw [ho] at h1;cases h1
    rw [h2]
    simp only [put,List.getD,oV]
    by_cases bG:l<tm.length
    ·rw [aA bG,aA (show l<(TM i).length by omega)];rfl
    ·rw [bt (dS bG),bt (show (TM i).length≤l by omega)]
   have ri:∀ (l:Nat) (v:ae), ¬ (∃ o',ops[i]? = some o'∧o'.dst=some l)→(put tm o.dst v).getD l .undef=tm.getD l .undef:=by
    intro l v hn
    cases hd:o.dst with
    | none=>rfl
    | some d =>
     have ep:d≠l:=fun e=>hn ⟨o,ho,by rw [hd,e]⟩
     simp only [put,List.getD,bM ep]
   have il:∀ j,((listed.setIfInBounds i true).getD j false=true)↔(listed.getD j false=true∨j=i):=by
    intro j
    constructor
    ·intro h
     by_cases e:i=j
     ·exact .inr e.symm
     ·rw [qH false e] at h;exact .inl h
    ·rintro (h | rfl)
     ·exact getD_set_true h
     ·have:j<listed.size:=by omega
      simp [this]
   have ye:(fun j=>(listed.setIfInBounds i true).getD j false=true)=fun j=>listed.getD j false=true∨j=i:=funext fun j=>propext (il j)
   have vD:∀ i' j,km ops i' j→(listed.setIfInBounds i true).getD j false=true→(listed.setIfInBounds i true).getD i' false=true:=by
    intro i' j hb hj
    rw [il] at hj ⊢
    rcases hj with hj | rfl
    ·exact .inl (gD i' j hb hj)
    ·exact .inl (aQ i' hb)
   have C1:=hT i o ho
   by_cases C5:dd i
   ·obtain ⟨i0,DI,zC⟩:=hdd i C5
    rcases zC with rfl | hb
    ·exact .inr ⟨by rw [DI];simp,hP i o DI ho tm σ β a w _ qa tE wL l2 hrel⟩
    ·exact absurd (hz i0 DI).2 (qZ i0 (aQ i0 hb))
   have C1:=C1.resolve_right fun h=>C5 h.1
   generalize uB:Region.linearise.go .any ops fuel (t / (Region.ready .any ops listed).length) (listed.setIfInBounds i true) []=rest
   have step:∃ jR σ' eX a1 w1,Rel X base mb D ⟨jR,σ'⟩ eX a1 w1∧Ext 0 σ β w σ' eX w1∧(∀ c,c≠(dw fs i).name σ→c < σ.length→eX c = β c)∧jR.length=tm.length∧σ'.length = σ.length ∧
     (∀ l,(∃ o',ops[i]? = some o'∧o'.dst=some l)→jR.getD l .undef=(TM (i+1)).getD l .undef)∧(∀ l, ¬ (∃ o',ops[i]? = some o'∧o'.dst=some l)→jR.getD l .undef=tm.getD l .undef) ∧
     (∀ c,c∈(dw fs i).wr→σ'[c]? = (SS (i+1))[c]?)∧(∀ c,c ∉ (dw fs i).wr→σ'[c]? = σ[c]?) ∧
     Steps P (lone (b.atR a (.inRegion ops (i :: rest) :: k)) cs w) (lone (b.atR a1 (.inRegion ops rest :: k)) cs w1):=by
    rcases C1 with (⟨g1,g2,g3⟩ | ⟨g1,r,dk,g2,g3,g4,g5⟩) | ⟨⟨g1,t0,x0,l0,r,g2,g3,g4,g5,g6⟩,g7⟩
    rotate_right
    ·have wv:my ops tm o=some true:=by unfold my;rw [g1]
     have hx:ev tm x0=ev (TM i) x0:=Iy qa x0 (by rw [g2];simp [Op.operands])
     obtain ⟨b0,xE⟩:=T9 l0 (ev (TM i) x0)
     obtain ⟨k0,Dd,nT⟩:=i2.some b0
     have qZ:jf σ l0 (ev tm x0)=some r:=by rw [hx,xE σ (SS k0) nT];exact g4 k0 Dd
     have C6:kR P o.op tm (dy Fp.no σ) (Fp.no.name σ) r σ:=by
      have sw:dy Fp.no σ = σ:=by
       apply bQ
       intro c
       simp only [dy,wj,bp,Fp.no]
       cases σ[c]?<;>rfl
      rw [sw,g2]
      simp only [kR,c9,g3,eA,qZ,bu]
     have ta:e7 Fp.no.wr 0 σ (dy Fp.no σ):=by
      have sw:dy Fp.no σ = σ:=by
       apply bQ
       intro c
       simp only [dy,wj,bp,Fp.no]
       cases σ[c]?<;>rfl
      rw [sw]
      have:∀ (i:Nat) (a:ai),e7 Fp.no.wr i a a:=fun i a=>by
       induction a generalizing i with
       | nil=>trivial
       | cons x a ih=>exact ⟨.inr rfl,ih _⟩
      exact this 0 σ
     obtain ⟨eX,a1,w1,q1,q2,q3,q4⟩:=kR.step (rest:=rest) hrel ho wv C6 ta (fun c hc=>by simp [Fp.no] at hc) (hrel.s.nO _ (ah _)) b k cs
     have NA:dG Fp.no.wr 0 σ σ = σ:=by
      apply bQ
      intro c
      rw [wP rfl];split<;>rfl
     rw [NA] at q1 q2
     refine ⟨_,σ,eX,a1,w1,q1,q2,fun c _ hc=>q3 c (by simp only [Fp.name,Fp.no,eB];omega) hc,zf _ _ _,rfl,fun l hl=>by rw [g5];exact k_ l _ hl,fun l hl=>ri l _ hl,fun c hc=>?_,fun _ _=>rfl,q4⟩
     rw [g7] at hc;cases hc
    ·have hw:=zU hrel (tE.trans g1)
     refine ⟨put tm o.dst gone,σ,β,a.put o.dst undef,w,hrel.next hrel.s (Ext.refl 0 _ _ _) (fun _ _ h=>h) (.nX _) o.dst,Ext.refl _ _ _ _,fun _ _ _=>rfl,zf _ _ _,rfl,
      fun l hl=>by rw [g2];exact k_ l _ hl,fun l hl=>ri l _ hl,fun c hc=>?_,fun _ _=>rfl,?_⟩
     ·rw [g3]
      exact fV.read hk.down AF gD i2 fE r6 aQ (hk.own i fE c hc).2.2
     ·have:=stepR_op_skip (P:=P) (b:=b) (a:=a) (ops:=ops) (i:=i) (rest:=rest) (k:=k) (cs:=cs) (w:=w) (by simp [ho,hw])
      rw [ho] at this
      exact .one this
    ·have C6:kR P o.op tm (dy (dw fs i) σ) ((dw fs i).name σ) r dk:=by
      rw [uz,eI];exact g2.congr (Iy qa)
     have ta:e7 (dw fs i).wr 0 dk (dy (dw fs i) σ):=by rw [uz];exact g3
     have yA : β ((dw fs i).name σ)=none:=by
      unfold Fp.name
      cases hn:(dw fs i).nm with
      | none=>exact hrel.s.nO _ (ah _)
      | some c=>exact s0 i c fE xg hn
     have tG : dk.length = σ.length:=by rw [zZ ta,dy,rV]
     have Dg : dk.length=(SS i).length:=by omega
     obtain ⟨eX,a1,w1,q1,q2,q3,q4⟩:=kR.step (rest:=rest) hrel ho (tE.trans g1) C6 ta (fun c hc=>(hk.own i fE c hc).2.1) yA b k cs
     refine ⟨_,_,eX,a1,w1,q1,q2,q3,zf _ _ _,H2 tG,fun l hl=>by rw [g4];exact k_ l _ hl,fun l hl=>ri l _ hl,fun c hc=>?_,fun c hc=>?_,q4⟩
     ·rw [g5,wP tG,wP Dg,bp,if_pos hc,if_pos hc]
     ·rw [wP tG,bp,if_neg hc]
   obtain ⟨jR,σ',eX,a1,w1,s1,s2,s3,s4,s5,s6,s7,s8,s9,OA⟩:=step
   have mU:=ih (t / (Region.ready .any ops listed).length) (listed.setIfInBounds i true) jR σ' eX a1 w1 (by simp [fH]) (by have:=Ij AZ;omega) vD
    (by rw [ye];exact fV.step hk.down gD i1 fE r6 (fun l hl=>uA l (.inr (by obtain ⟨o',h1,h2⟩:=hl;rw [ho] at h1;cases h1;exact h2))) s6 s7)
    (by rw [ye];exact fV.step hk.down gD i2 fE r6 (fun c hc=>(hk.own i fE c hc).2.2) s8 s9)
    (by omega) (by omega)
    (fun j c hj yw G7=>by
     have GO:j≠i:=fun e=>by rw [e] at yw;have:=(il i).2 (.inr rfl);rw [this] at yw;cases yw
     have Dj:listed.getD j false=false:=by rw [qH false (gA GO)] at yw;exact yw
     obtain ⟨m1,m2,m3⟩:=hk.E3 j hj c G7
     rw [s3 c ?_ (by omega)]
     ·exact s0 j c hj Dj G7
     ·unfold Fp.name
      cases hn:(dw fs i).nm with
      | none=>simp only [eB];omega
      | some c'=>exact fun e=>m3 i fE (gA GO) (by rw [hn,e];rfl)) s1
    (fun j hj=>by rcases (il j).1 hj with h | rfl;exact qZ j h;exact C5)
   rw [uB] at mU
   have ke:Ext lo.n σ β w σ' eX w1:=⟨s2.os,s2.tape,s2.output,s2.size,s2.cell,s2.block,s2.iL,fun c hc=>s3 c (by
    unfold Fp.name
    cases hn:(dw fs i).nm with
    | none=>simp only [eB];omega
    | some c'=>have:=(hk.E3 i fE c' hn).1;simp only [br];omega) (by omega)⟩
   exact mU.of ke OA
theorem Yez (hk:sM ops fs n0 N) (iU:lo.n≤n0) (hN:n0≤N) (hT:∀ i o,ops[i]? = some o→p5 P ops (dw fs i) o (TM i) (SS i) (TM (i+1)) (SS (i+1))∨xO P ops.size o (TM i) SS i (TM (i+1))∧(dw fs i).wr=[]) (Di:∀ i,i≤ops.size→(TM i).length=(TM 0).length) (GV:∀ i,i≤ops.size→(SS i).length=N)
  (b:Frame) (k:List Item) (cs:List Frame) (fuel t:Nat) (listed:Array Bool) (tm:List ae) (σ:ai) (β:Env) (a:Act) (w:World) (h1:listed.size=ops.size) (h2:nA listed≤fuel)
  (h3:∀ i j,km ops i j→listed.getD j false=true→listed.getD i false=true)
  (h4:fV ops.size (fun i l=>∃ o,ops[i]? = some o∧o.dst=some l) (fun i l=>(TM i).getD l .undef) (fun j=>listed.getD j false=true) (fun l=>tm.getD l .undef))
  (h5:fV ops.size (fun i c=>c∈(dw fs i).wr) (fun i c=>(SS i)[c]?) (fun j=>listed.getD j false=true) (fun c=>σ[c]?))
  (h6:tm.length=(TM 0).length) (h7 : σ.length=N) (h8:∀ i c,i<ops.size→listed.getD i false=false→(dw fs i).nm=some c→β c=none) (h9:Rel X base mb D ⟨tm,σ⟩ β a w) :
   ∃ β' a' w',Rel X base mb D ⟨TM ops.size,SS ops.size⟩ β' a' w'∧Ext lo.n σ β w (SS ops.size) β' w' ∧
    Steps P (lone (b.atR a (.inRegion ops (Region.linearise.go .any ops fuel t listed []) :: k)) cs w) (lone (b.atR a' k) cs w'):=by
 rcases Ym3 (lo:=lo) (Q:=fun _ _=>False) (z:=none) (dd:=fun _=>False) (fun _ h=>by cases h) (fun _ h=>h.elim) hk iU hN (fun i o hi=>.inl (hT i o hi)) Di GV b k cs (fun _ _ h=>by cases h) fuel t listed tm σ β a w h1 h2 h3 h4 h5 h6 h7 h8 h9 (fun _ _ h=>h) with ⟨_,h⟩ | ⟨h,_⟩
 ·exact h
 ·exact absurd rfl h
theorem aK.draw {k:List KI} {id:Nat} {tm:List ae} {σ:ai} (fs:List Fp) (n0 N:Nat) (hm:P.follows .mixedOrders=true) (ju:qQ ops fs n0 N=true) (h0 : σ.length=n0) (hN:n0≤N) (h:iD P lo Q k ops ops.toList fs tm (dC N σ)) :
  aK P lo Q (.code (.region id ops true) :: k) .normal ⟨tm,σ⟩:=by
 have hk:=RJ ju
 obtain ⟨TM,SS,e1,e2,e3,e4⟩:=H6 _ _ _ _ h
 have hlen:ops.toList.length=ops.size:=by simp
 rw [hlen] at e4
 have hT:∀ i o,ops[i]? = some o→p5 P ops (dw fs i) o (TM i) (SS i) (TM (i+1)) (SS (i+1)):=fun i o hi=>e3 i o (by simpa using hi)
 have hl:∀ i,i≤ops.size→(TM i).length=(TM 0).length∧(SS i).length=N:=by
  intro i
  induction i with
  | zero=>intro _;exact ⟨rfl,by rw [e2,Lb (by omega)]⟩
  | succ i ih =>
   intro hi
   have:=(hT i ops[i] (aD (by omega))).len
   have:=ih (by omega)
   omega
 intro X base mb D β a w b kk cs h1 h2 h3 _
 simp only at h1
 have hrel:Rel X base mb D ⟨TM 0,SS 0⟩ β a { w with drawn:=w.drawn+1 }:=by
  have:=Tw (n:=w.drawn+1) h3
  rw [e1,e2]
  exact ⟨this.s.pad (by simp only;omega),this.n,fun j hj=>by rw [JU];exact this.t j hj,this.d⟩
 obtain ⟨β',a',w',r1,r2,r3⟩:=Yez (lo:=lo) hk (by omega) hN (fun i o hi=>.inl (hT i o hi)) (fun i hi=>(hl i hi).1) (fun i hi=>(hl i hi).2) b kk cs ops.size (w.tape w.drawn (.order b.fn id)) (Array.replicate ops.size false) (TM 0) (SS 0) β a { w with drawn:=w.drawn+1 } (by simp)
  (by simp [nA]) (fun i j _ hj=>by simp [aj,eg] at hj;split at hj<;>simp at hj)
  (by
   have:(fun j=>(Array.replicate ops.size false).getD j false=true)=fun _=>False:=funext fun j=>by simp [aj,eg];split<;>simp
   rw [this];exact fV.init)
  (by
   have:(fun j=>(Array.replicate ops.size false).getD j false=true)=fun _=>False:=funext fun j=>by simp [aj,eg];split<;>simp
   rw [this];exact fV.init)
  rfl (hl 0 (av _)).2 (fun i c hi _ hc=>h3.s.nO c (by simp only;have:=(hk.E3 i hi c hc).1;omega)) hrel
 rw [e2] at r2
 refine ⟨.normal,⟨TM ops.size,SS ops.size⟩,β',a',w',e4,?_,r1,?_, .head stepR_region_draw ?_⟩
 ·have:=(hl ops.size (ah _)).2
  simp only;omega
 ·exact ⟨r2.os,r2.tape,r2.output,r2.size,fun g o v hc hn=>r2.cell g o v hc fun hm=>hn (Cw.1 hm),fun g hg hn=>r2.block g hg fun o hm=>hn o (Cw.1 hm),fun g o hm=>(r2.iL g o hm).imp Cw.1 (fun h=>h),r2.env⟩
 ·have hs:Region.schedule (P.follows .mixedOrders) ops (w.tape w.drawn (.order b.fn id))=Region.linearise.go .any ops ops.size (w.tape w.drawn (.order b.fn id)) (Array.replicate ops.size false) []:=by
   simp only [Region.schedule,hm,fU,if_true];rfl
  rw [hs];exact r3
end
end Go.c8
