/- Part 25 of my own framework and of the walks of functions: AbsZ. -/
import Derived.Test.YtpgnahcljlclcaaGreatOwn24
set_option linter.unusedVariables false
set_option linter.unusedSectionVars false
set_option linter.unusedSimpArgs false
namespace Go.Abs
open Go
def todoN (listed:Array Bool):Nat:=listed.toList.count false
theorem Zhb {listed:Array Bool} {i:Nat} (h:listed.getD i true=false):todoN (listed.setIfInBounds i true)+1=todoN listed:=by
 have hi:i<listed.size:=by
  refine Nat.lt_of_not_le fun hle=>?_
  simp [Array.getElem?_eq_none hle] at h
 have hv:listed.toList[i]'(by simpa using hi)=false:=by simpa [hi] using h
 simp only [todoN,Array.toList_setIfInBounds]
 rw [List.count_set (by simpa using hi),hv]
 have : 0<listed.toList.count false:=List.count_pos_iff.2 (hv ▸ List.getElem_mem _)
 rw [show (true==false)=false from rfl]
 simp only [beq_self_eq_true,if_true,Bool.false_eq_true,if_false]
 omega
theorem Zi1 {listed:Array Bool} (h:todoN listed=0) {j:Nat} (hj:j<listed.size):listed.getD j false=true:=by
 have:false ∉ listed.toList:=List.count_eq_zero.1 h
 cases hv:listed[j] with
 | true=>simp [hj,hv]
 | false=>exact absurd (by rw [← hv];simp) this
theorem InvD.some {V:Type} {m:Nat} {wr:Nat→Nat→Prop} {S:Nat→Nat→V} {D:Nat→Prop} {s:Nat→V} (h:InvD m wr S D s) (l:Nat):∃ k,k≤m∧s l=S k l:=by
 rcases Zgg (wr:=fun j l=>D j∧wr j l) l m with h1 | ⟨j,h1,⟨h2,h2'⟩,h3⟩
 ·exact ⟨0,Nat.zero_le _,(h l).1 fun j hj hDj hw=>h1 j hj ⟨hDj,hw⟩⟩
 ·exact ⟨j+1,h1,(h l).2 j h1 h2 h2' fun j' hj' hD' hw'=>Nat.le_of_not_lt fun hlt=>h3 j' hlt hj' ⟨hD',hw'⟩⟩
theorem Zp4 (l:Lay) (p:AVal):∃ b:Nat, ∀ σ σ':Store,σ[b]? = σ'[b]?→loadA σ l p=loadA σ' l p:=by
 cases p with
 | ptr b off=>exact ⟨b,fun σ σ' h=>by simp only [loadA,getS,h]⟩
 | rp b i f=>exact ⟨b,fun σ σ' h=>by simp only [loadA,getS,h]⟩
 | _=>exact ⟨0,fun _ _ _=>rfl⟩
def StepL (P:Program) (m:Nat) (o:Oper) (tm:List AVal) (SS:Nat→Store) (i:Nat) (tm':List AVal):Prop :=
 o.guard=none∧∃ t x l r,o.op = .load t x∧layOf P t=some l∧(∀ k,k≤m→loadA (SS k) l (ev tm x)=some r)∧tm'=put tm o.dst r∧SS (i+1)=SS i
section
variable {P:Program} {lo:Ctx} {Q:AExit→St→Prop} {ops:Array Oper} {fs:List Fp} {n0 N:Nat} {TM:Nat→List AVal} {SS:Nat→Store} {X:Nat→Nat→Prop} {base mb:Nat} {D:List Deferred}
def DrawOut (P:Program) (lo:Ctx) (Q:AExit→St→Prop) (X:Nat→Nat→Prop) (base mb:Nat) (D:List Deferred) (b:Frame) (k:List Item) (cs:List Frame) (z:Option Nat) (TMe:List AVal) (SSe σ:Store) (β:Env) (w:World) (m:Machine):Prop :=
 (z=none∧∃ β' a' w',Rel X base mb D ⟨TMe,SSe⟩ β' a' w'∧Ext lo.n σ β w SSe β' w'∧Steps P m (lone (b.atR a' k) cs w')) ∨
  z≠none∧∃ u st' β' a' w' k',Q (.panic u) st'∧lo.n≤st'.σ.length∧Rel X base mb D st' β' a' w'∧Ext lo.n σ β w st'.σ β' w'∧Steps P m (lone { b.atR a' k' with mode:=.panicking [{ v:=u,recovered:=false }] } cs w')
theorem DrawOut.of {b:Frame} {k:List Item} {cs:List Frame} {z:Option Nat} {TMe:List AVal} {SSe σ σ':Store} {β β1:Env} {w w1:World} {m m1:Machine} (he:Ext lo.n σ β w σ' β1 w1) (hs:Steps P m m1) (h:DrawOut P lo Q X base mb D b k cs z TMe SSe σ' β1 w1 m1) :
  DrawOut P lo Q X base mb D b k cs z TMe SSe σ β w m:=by
 rcases h with ⟨h0,β',a',w',h1,h2,h3⟩ | ⟨hz,u,st',β',a',w',k',h0,h0',h1,h2,h3⟩
 ·exact .inl ⟨h0,β',a',w',h1,he.trans h2,hs.trans h3⟩
 ·exact .inr ⟨hz,u,st',β',a',w',k',h0,h0',h1,he.trans h2,hs.trans h3⟩
theorem Ydy {z:Option Nat} {dd:Nat→Prop} (hz:∀ i0,z=some i0→i0<ops.size∧dd i0) (hdd:∀ j,dd j→∃ i0,z=some i0∧(j=i0∨Bef ops i0 j)) (hk:DrawOk ops fs n0 N) (hlo:lo.n≤n0) (hN:n0≤N)
  (hT:∀ i o,ops[i]? = some o→((StepT P ops (fpAt fs i) o (TM i) (SS i) (TM (i+1)) (SS (i+1))∨StepL P ops.size o (TM i) SS i (TM (i+1))∧(fpAt fs i).wr=[])∨dd i∧(∃ v,TM (i+1)=put (TM i) o.dst v)∧SS (i+1)=SS i)) (hlT:∀ i,i≤ops.size→(TM i).length=(TM 0).length) (hlS:∀ i,i≤ops.size→(SS i).length=N)
  (b:Frame) (k:List Item) (cs:List Frame)
  (hP:∀ i o,z=some i→ops[i]? = some o→∀ (tm:List AVal) (σ:Store) (β:Env) (a:Act) (w:World) (rest:List Nat),(∀ l,l∈o.looksAt ops→tm.getD l .undef=(TM i).getD l .undef)→gdA ops tm o=gdA ops (TM i) o→(∀ c,c ∉ (fpAt fs i).hd→σ[c]? = (SS i)[c]?)→σ.length=N→Rel X base mb D ⟨tm,σ⟩ β a w →
   ∃ u st' β' a' w' k',Q (.panic u) st'∧lo.n≤st'.σ.length∧Rel X base mb D st' β' a' w'∧Ext lo.n σ β w st'.σ β' w'∧Steps P (lone (b.atR a (.inRegion ops (i :: rest) :: k)) cs w) (lone { b.atR a' k' with mode:=.panicking [{ v:=u,recovered:=false }] } cs w')) :
  ∀ (fuel t:Nat) (listed:Array Bool) (tm:List AVal) (σ:Store) (β:Env) (a:Act) (w:World),listed.size=ops.size→todoN listed≤fuel →
   (∀ i j,Bef ops i j→listed.getD j false=true→listed.getD i false=true) →
   InvD ops.size (fun i l=>∃ o,ops[i]? = some o∧o.dst=some l) (fun i l=>(TM i).getD l .undef) (fun j=>listed.getD j false=true) (fun l=>tm.getD l .undef) →
   InvD ops.size (fun i c=>c∈(fpAt fs i).wr) (fun i c=>(SS i)[c]?) (fun j=>listed.getD j false=true) (fun c=>σ[c]?) →
   tm.length=(TM 0).length→σ.length=N→(∀ i c,i<ops.size→listed.getD i false=false→(fpAt fs i).nm=some c→β c=none)→Rel X base mb D ⟨tm,σ⟩ β a w→(∀ j,listed.getD j false=true→¬ dd j) →
   DrawOut P lo Q X base mb D b k cs z (TM ops.size) (SS ops.size) σ β w (lone (b.atR a (.inRegion ops (Region.linearise.go .any ops fuel t listed []) :: k)) cs w):=by
 have hST:∀ i l,i<ops.size→¬ (∃ o,ops[i]? = some o∧o.dst=some l)→(TM (i+1)).getD l .undef=(TM i).getD l .undef:=by
  intro i l hi hn
  have ho:ops[i]? = some ops[i]:=Array.getElem?_eq_getElem hi
  have hput:∀ v,(put (TM i) ops[i].dst v).getD l .undef=(TM i).getD l .undef:=by
   intro v
   cases hd:ops[i].dst with
   | none=>rfl
   | some d =>
    have hne:d≠l:=fun e=>hn ⟨ops[i],ho,by rw [hd,e]⟩
    simp only [put,List.getD,List.getElem?_set_ne hne]
  rcases hT i _ ho with ((⟨_,h,_⟩ | ⟨_,r,σ1,_,_,h,_⟩) | ⟨⟨_,_,_,_,_,_,_,_,h,_⟩,_⟩) | ⟨_,⟨_,h⟩,_⟩<;>rw [h]<;>exact hput _
 have hSS:∀ i c,i<ops.size→¬ c∈(fpAt fs i).wr→(SS (i+1))[c]? = (SS i)[c]?:=by
  intro i c hi hn
  have ho:ops[i]? = some ops[i]:=Array.getElem?_eq_getElem hi
  rcases hT i _ ho with ((⟨_,_,h⟩ | ⟨_,r,σ1,_,h2,_,h⟩) | ⟨⟨_,_,_,_,_,_,_,_,_,h⟩,_⟩) | ⟨_,_,h⟩
  rotate_right
  ·rw [h]
  rotate_right
  ·rw [h]
  ·rw [h]
  ·rw [h,Zbk (by rw [Zcl h2,maskF,Zb4]),Nat.zero_add,if_neg hn]
 intro fuel
 have finish:∀ (listed:Array Bool) (tm:List AVal) (σ:Store) (β:Env) (a:Act) (w:World),(∀ j,j<ops.size→listed.getD j false=true) →
   InvD ops.size (fun i l=>∃ o,ops[i]? = some o∧o.dst=some l) (fun i l=>(TM i).getD l .undef) (fun j=>listed.getD j false=true) (fun l=>tm.getD l .undef) →
   InvD ops.size (fun i c=>c∈(fpAt fs i).wr) (fun i c=>(SS i)[c]?) (fun j=>listed.getD j false=true) (fun c=>σ[c]?) →
   tm.length=(TM 0).length→σ.length=N→Rel X base mb D ⟨tm,σ⟩ β a w→(∀ j,listed.getD j false=true→¬ dd j) →
   DrawOut P lo Q X base mb D b k cs z (TM ops.size) (SS ops.size) σ β w (lone (b.atR a (.inRegion ops [] :: k)) cs w):=by
  intro listed tm σ β a w hall i1 i2 l1 l2 hrel hld
  have hz0:z=none:=by
   cases hzz:z with
   | none=>rfl
   | some i0=>obtain ⟨q1,q2⟩:=hz i0 hzz;exact absurd q2 (hld i0 (hall i0 q1))
  have e1:tm=TM ops.size:=by
   apply List.ext_getElem?
   intro l
   have h1:tm.getD l .undef=(TM ops.size).getD l .undef:=InvD.done hST i1 hall l
   have hl:=hlT ops.size (Nat.le_refl _)
   by_cases hlt:l<tm.length
   ·have hlt':l<(TM ops.size).length:=by omega
    rw [List.getElem?_eq_getElem hlt,List.getElem?_eq_getElem hlt']
    simp only [List.getD,List.getElem?_eq_getElem hlt,List.getElem?_eq_getElem hlt',Option.getD_some] at h1
    rw [h1]
   ·rw [List.getElem?_eq_none (by omega),List.getElem?_eq_none (by omega)]
  have e2 : σ=SS ops.size:=by
   apply List.ext_getElem?
   intro c
   exact InvD.done hSS i2 hall c
  subst e1 e2
  exact .inl ⟨hz0,β,a,w,hrel,Ext.refl _ _ _ _, .one stepR_region_end⟩
 induction fuel with
 | zero =>
  intro t listed tm σ β a w hsz htodo hdown i1 i2 l1 l2 hnm hrel hld
  simp only [Region.linearise.go,List.reverse_nil]
  exact finish listed tm σ β a w (fun j hj=>Zi1 (by omega) (by omega)) i1 i2 l1 l2 hrel hld
 | succ fuel ih =>
  intro t listed tm σ β a w hsz htodo hdown i1 i2 l1 l2 hnm hrel hld
  simp only [Region.linearise.go]
  change DrawOut P lo Q X base mb D b k cs z (TM ops.size) (SS ops.size) σ β w (lone (b.atR a (.inRegion ops (match (Region.ready .any ops listed)[t % (Region.ready .any ops listed).length]? with
   | some i=>Region.linearise.go .any ops fuel (t / (Region.ready .any ops listed).length) (listed.setIfInBounds i true) [i]
   | none=>[].reverse) :: k)) cs w)
  cases hi:(Region.ready .any ops listed)[t % (Region.ready .any ops listed).length]? with
  | none =>
   have hnil:Region.ready .any ops listed=[]:=by
    cases hr:Region.ready .any ops listed with
    | nil=>rfl
    | cons x xs =>
     rw [hr] at hi
     have hlt:t % (x :: xs).length<(x :: xs).length:=Nat.mod_lt _ (by simp)
     simp at hi
     simp at hlt
     omega
   refine finish listed tm σ β a w (fun j=>?_) i1 i2 l1 l2 hrel hld
   induction j using Nat.strongRecOn with
   | _ j ihj =>
    intro hj
    cases hv:listed.getD j false with
    | true=>rfl
    | false =>
     have hmem:j∈Region.ready .any ops listed:=mem_ready.2 ⟨by
      have:j<listed.size:=by omega
      simpa [this] using hv,ops[j],Array.getElem?_eq_getElem hj,fun e he hb=>by
       have hlt:e.on<j:=(Bef.edge (Array.getElem?_eq_getElem hj) he hb).lt hk.down
       exact ihj e.on hlt (by omega)⟩
     rw [hnil] at hmem;cases hmem
  | some i =>
   simp only []
   rw [linearise_go_acc,List.reverse_singleton,List.singleton_append]
   obtain ⟨hun,o,ho,hall⟩:=mem_ready.1 (List.mem_of_getElem? hi)
   have hin:i<ops.size:=(Array.getElem?_eq_some_iff.1 ho).1
   have hun':listed.getD i false=false:=by
    have:i<listed.size:=by omega
    simpa [this] using hun
   have hni:¬ (listed.getD i false=true):=by rw [hun'];simp
   have hpre:∀ j,Bef ops j i→listed.getD j false=true:=by
    intro j hb
    generalize hi':i=i' at hb
    induction hb with
    | @edge j' o' e h1 h2 h3 =>
     subst hi'
     rw [ho] at h1;cases h1
     exact hall e h2 h3
    | trans h1 h2 _ ih2=>exact hdown _ _ h1 (ih2 hi')
   have hordT:∀ l,l∈o.looksAt ops∨o.dst=some l→∀ j,j<ops.size→j≠i→(∃ oj,ops[j]? = some oj∧oj.dst=some l)→Bef ops i j∨Bef ops j i:=by
    rintro l hl j hj hne ⟨oj,h1,h2⟩
    exact hk.tmp i o ho l hl j oj h1 hne h2
   have readT:∀ l,l∈o.looksAt ops→tm.getD l .undef=(TM i).getD l .undef:=fun l hl=>InvD.read hk.down hST hdown i1 hin hni hpre (hordT l (.inl hl))
   have readS:∀ c,c ∉ (fpAt fs i).hd→σ[c]? = (SS i)[c]?:=fun c hc=>InvD.read hk.down hSS hdown i2 hin hni hpre (hk.see i hin c hc)
   have hlTi:=hlT i (by omega)
   have hlSi:=hlS i (by omega)
   have hmask:maskF (fpAt fs i) σ=maskF (fpAt fs i) (SS i):=by
    apply List.ext_getElem?
    intro c
    simp only [maskF,Zbo,Nat.zero_add]
    by_cases hc:c∈(fpAt fs i).hd
    ·have e:(!(fpAt fs i).hd.contains c)=false:=by simp [hc]
     rw [e]
     by_cases hlt:c<N
     ·rw [List.getElem?_eq_getElem (l:=σ) (by omega),List.getElem?_eq_getElem (l:=SS i) (by omega)];rfl
     ·rw [List.getElem?_eq_none (l:=σ) (by omega),List.getElem?_eq_none (l:=SS i) (by omega)]
    ·rw [readS c hc]
   have hname:(fpAt fs i).name σ=(fpAt fs i).name (SS i):=by simp only [Fp.name,l2,hlSi]
   have hgd:gdA ops tm o=gdA ops (TM i) o:=Znj (by omega) readT
   have hput:∀ (l:Nat) (v:AVal),(∃ o',ops[i]? = some o'∧o'.dst=some l)→(put tm o.dst v).getD l .undef=(put (TM i) o.dst v).getD l .undef:=by
    rintro l v ⟨o',h1,h2⟩
    rw [ho] at h1;cases h1
    rw [h2]
    simp only [put,List.getD,List.getElem?_set_self']
    by_cases hlt:l<tm.length
    ·rw [List.getElem?_eq_getElem hlt,List.getElem?_eq_getElem (show l<(TM i).length by omega)];rfl
    ·rw [List.getElem?_eq_none (Nat.le_of_not_lt hlt),List.getElem?_eq_none (show (TM i).length≤l by omega)]
   have hput2:∀ (l:Nat) (v:AVal), ¬ (∃ o',ops[i]? = some o'∧o'.dst=some l)→(put tm o.dst v).getD l .undef=tm.getD l .undef:=by
    intro l v hn
    cases hd:o.dst with
    | none=>rfl
    | some d =>
     have hne:d≠l:=fun e=>hn ⟨o,ho,by rw [hd,e]⟩
     simp only [put,List.getD,List.getElem?_set_ne hne]
   have hset:∀ j,((listed.setIfInBounds i true).getD j false=true)↔(listed.getD j false=true∨j=i):=by
    intro j
    constructor
    ·intro h
     by_cases e:i=j
     ·exact .inr e.symm
     ·rw [Go.getD_set_ne false e] at h;exact .inl h
    ·rintro (h | rfl)
     ·exact getD_set_true h
     ·have:j<listed.size:=by omega
      simp [this]
   have hDeq:(fun j=>(listed.setIfInBounds i true).getD j false=true)=fun j=>listed.getD j false=true∨j=i:=funext fun j=>propext (hset j)
   have hdown':∀ i' j,Bef ops i' j→(listed.setIfInBounds i true).getD j false=true→(listed.setIfInBounds i true).getD i' false=true:=by
    intro i' j hb hj
    rw [hset] at hj ⊢
    rcases hj with hj | rfl
    ·exact .inl (hdown i' j hb hj)
    ·exact .inl (hpre i' hb)
   have hT':=hT i o ho
   by_cases hdi:dd i
   ·obtain ⟨i0,hzi,hi0⟩:=hdd i hdi
    rcases hi0 with rfl | hb
    ·exact .inr ⟨by rw [hzi];simp,hP i o hzi ho tm σ β a w _ readT hgd readS l2 hrel⟩
    ·exact absurd (hz i0 hzi).2 (hld i0 (hpre i0 hb))
   have hT':=hT'.resolve_right fun h=>hdi h.1
   generalize hrest:Region.linearise.go .any ops fuel (t / (Region.ready .any ops listed).length) (listed.setIfInBounds i true) []=rest
   have step:∃ tm' σ' β1 a1 w1,Rel X base mb D ⟨tm',σ'⟩ β1 a1 w1∧Ext 0 σ β w σ' β1 w1∧(∀ c,c≠(fpAt fs i).name σ→c < σ.length→β1 c = β c)∧tm'.length=tm.length∧σ'.length = σ.length ∧
     (∀ l,(∃ o',ops[i]? = some o'∧o'.dst=some l)→tm'.getD l .undef=(TM (i+1)).getD l .undef)∧(∀ l, ¬ (∃ o',ops[i]? = some o'∧o'.dst=some l)→tm'.getD l .undef=tm.getD l .undef) ∧
     (∀ c,c∈(fpAt fs i).wr→σ'[c]? = (SS (i+1))[c]?)∧(∀ c,c ∉ (fpAt fs i).wr→σ'[c]? = σ[c]?) ∧
     Steps P (lone (b.atR a (.inRegion ops (i :: rest) :: k)) cs w) (lone (b.atR a1 (.inRegion ops rest :: k)) cs w1):=by
    rcases hT' with (⟨g1,g2,g3⟩ | ⟨g1,r,σ1,g2,g3,g4,g5⟩) | ⟨⟨g1,t0,x0,l0,r,g2,g3,g4,g5,g6⟩,g7⟩
    rotate_right
    ·have hgt:gdA ops tm o=some true:=by unfold gdA;rw [g1]
     have hx:ev tm x0=ev (TM i) x0:=Zj0 readT x0 (by rw [g2];simp [Op.operands])
     obtain ⟨b0,hb0⟩:=Zp4 l0 (ev (TM i) x0)
     obtain ⟨k0,hk0,hs0⟩:=i2.some b0
     have hld:loadA σ l0 (ev tm x0)=some r:=by rw [hx,hb0 σ (SS k0) hs0];exact g4 k0 hk0
     have hdo:DoOp P o.op tm (maskF Fp.no σ) (Fp.no.name σ) r σ:=by
      have hm0:maskF Fp.no σ = σ:=by
       apply List.ext_getElem?
       intro c
       simp only [maskF,Zbo,Nat.zero_add,Fp.no]
       cases σ[c]?<;>rfl
      rw [hm0,g2]
      simp only [DoOp,opE,g3,Option.bind_some,hld,Option.map_some]
     have hsm:sameO Fp.no.wr 0 σ (maskF Fp.no σ):=by
      have hm0:maskF Fp.no σ = σ:=by
       apply List.ext_getElem?
       intro c
       simp only [maskF,Zbo,Nat.zero_add,Fp.no]
       cases σ[c]?<;>rfl
      rw [hm0]
      have:∀ (i:Nat) (a:Store),sameO Fp.no.wr i a a:=fun i a=>by
       induction a generalizing i with
       | nil=>trivial
       | cons x a ih=>exact ⟨.inr rfl,ih _⟩
      exact this 0 σ
     obtain ⟨β1,a1,w1,q1,q2,q3,q4⟩:=DoOp.step (rest:=rest) hrel ho hgt hdo hsm (fun c hc=>by simp [Fp.no] at hc) (hrel.s.dom _ (Nat.le_refl _)) b k cs
     have hmg:mergeW Fp.no.wr 0 σ σ = σ:=by
      apply List.ext_getElem?
      intro c
      rw [Zbk rfl];split<;>rfl
     rw [hmg] at q1 q2
     refine ⟨_,σ,β1,a1,w1,q1,q2,fun c _ hc=>q3 c (by simp only [Fp.name,Fp.no,Option.getD_none];omega) hc,Zbx _ _ _,rfl,fun l hl=>by rw [g5];exact hput l _ hl,fun l hl=>hput2 l _ hl,fun c hc=>?_,fun _ _=>rfl,q4⟩
     rw [g7] at hc;cases hc
    ·have hw:=Zc4 hrel (hgd.trans g1)
     refine ⟨put tm o.dst gone,σ,β,a.put o.dst undef,w,hrel.next hrel.s (Ext.refl 0 _ _ _) (fun _ _ h=>h) (.opq _) o.dst,Ext.refl _ _ _ _,fun _ _ _=>rfl,Zbx _ _ _,rfl,
      fun l hl=>by rw [g2];exact hput l _ hl,fun l hl=>hput2 l _ hl,fun c hc=>?_,fun _ _=>rfl,?_⟩
     ·rw [g3]
      exact InvD.read hk.down hSS hdown i2 hin hni hpre (hk.own i hin c hc).2.2
     ·have:=stepR_op_skip (P:=P) (b:=b) (a:=a) (ops:=ops) (i:=i) (rest:=rest) (k:=k) (cs:=cs) (w:=w) (by simp [ho,hw])
      rw [ho] at this
      exact .one this
    ·have hdo:DoOp P o.op tm (maskF (fpAt fs i) σ) ((fpAt fs i).name σ) r σ1:=by
      rw [hmask,hname];exact g2.congr (Zj0 readT)
     have hsm:sameO (fpAt fs i).wr 0 σ1 (maskF (fpAt fs i) σ):=by rw [hmask];exact g3
     have hnone : β ((fpAt fs i).name σ)=none:=by
      unfold Fp.name
      cases hn:(fpAt fs i).nm with
      | none=>exact hrel.s.dom _ (Nat.le_refl _)
      | some c=>exact hnm i c hin hun' hn
     have hl1 : σ1.length = σ.length:=by rw [Zcl hsm,maskF,Zb4]
     have hl1' : σ1.length=(SS i).length:=by omega
     obtain ⟨β1,a1,w1,q1,q2,q3,q4⟩:=DoOp.step (rest:=rest) hrel ho (hgd.trans g1) hdo hsm (fun c hc=>(hk.own i hin c hc).2.1) hnone b k cs
     refine ⟨_,_,β1,a1,w1,q1,q2,q3,Zbx _ _ _,Zg1 hl1,fun l hl=>by rw [g4];exact hput l _ hl,fun l hl=>hput2 l _ hl,fun c hc=>?_,fun c hc=>?_,q4⟩
     ·rw [g5,Zbk hl1,Zbk hl1',Nat.zero_add,if_pos hc,if_pos hc]
     ·rw [Zbk hl1,Nat.zero_add,if_neg hc]
   obtain ⟨tm',σ',β1,a1,w1,s1,s2,s3,s4,s5,s6,s7,s8,s9,s10⟩:=step
   have hout:=ih (t / (Region.ready .any ops listed).length) (listed.setIfInBounds i true) tm' σ' β1 a1 w1 (by simp [hsz]) (by have:=Zhb hun;omega) hdown'
    (by rw [hDeq];exact InvD.step hk.down hdown i1 hin hni (fun l hl=>hordT l (.inr (by obtain ⟨o',h1,h2⟩:=hl;rw [ho] at h1;cases h1;exact h2))) s6 s7)
    (by rw [hDeq];exact InvD.step hk.down hdown i2 hin hni (fun c hc=>(hk.own i hin c hc).2.2) s8 s9)
    (by omega) (by omega)
    (fun j c hj hlj hnj=>by
     have hji:j≠i:=fun e=>by rw [e] at hlj;have:=(hset i).2 (.inr rfl);rw [this] at hlj;cases hlj
     have hlj':listed.getD j false=false:=by rw [Go.getD_set_ne false (Ne.symm hji)] at hlj;exact hlj
     obtain ⟨m1,m2,m3⟩:=hk.nam j hj c hnj
     rw [s3 c ?_ (by omega)]
     ·exact hnm j c hj hlj' hnj
     ·unfold Fp.name
      cases hn:(fpAt fs i).nm with
      | none=>simp only [Option.getD_none];omega
      | some c'=>exact fun e=>m3 i hin (Ne.symm hji) (by rw [hn,e];rfl)) s1
    (fun j hj=>by rcases (hset j).1 hj with h | rfl;exact hld j h;exact hdi)
   rw [hrest] at hout
   have hlow:Ext lo.n σ β w σ' β1 w1:=⟨s2.os,s2.tape,s2.output,s2.size,s2.cell,s2.block,s2.newM,fun c hc=>s3 c (by
    unfold Fp.name
    cases hn:(fpAt fs i).nm with
    | none=>simp only [Option.getD_none];omega
    | some c'=>have:=(hk.nam i hin c' hn).1;simp only [Option.getD_some];omega) (by omega)⟩
   exact hout.of hlow s10
theorem Yav (hk:DrawOk ops fs n0 N) (hlo:lo.n≤n0) (hN:n0≤N) (hT:∀ i o,ops[i]? = some o→StepT P ops (fpAt fs i) o (TM i) (SS i) (TM (i+1)) (SS (i+1))∨StepL P ops.size o (TM i) SS i (TM (i+1))∧(fpAt fs i).wr=[]) (hlT:∀ i,i≤ops.size→(TM i).length=(TM 0).length) (hlS:∀ i,i≤ops.size→(SS i).length=N)
  (b:Frame) (k:List Item) (cs:List Frame) (fuel t:Nat) (listed:Array Bool) (tm:List AVal) (σ:Store) (β:Env) (a:Act) (w:World) (h1:listed.size=ops.size) (h2:todoN listed≤fuel)
  (h3:∀ i j,Bef ops i j→listed.getD j false=true→listed.getD i false=true)
  (h4:InvD ops.size (fun i l=>∃ o,ops[i]? = some o∧o.dst=some l) (fun i l=>(TM i).getD l .undef) (fun j=>listed.getD j false=true) (fun l=>tm.getD l .undef))
  (h5:InvD ops.size (fun i c=>c∈(fpAt fs i).wr) (fun i c=>(SS i)[c]?) (fun j=>listed.getD j false=true) (fun c=>σ[c]?))
  (h6:tm.length=(TM 0).length) (h7 : σ.length=N) (h8:∀ i c,i<ops.size→listed.getD i false=false→(fpAt fs i).nm=some c→β c=none) (h9:Rel X base mb D ⟨tm,σ⟩ β a w) :
   ∃ β' a' w',Rel X base mb D ⟨TM ops.size,SS ops.size⟩ β' a' w'∧Ext lo.n σ β w (SS ops.size) β' w' ∧
    Steps P (lone (b.atR a (.inRegion ops (Region.linearise.go .any ops fuel t listed []) :: k)) cs w) (lone (b.atR a' k) cs w'):=by
 rcases Ydy (lo:=lo) (Q:=fun _ _=>False) (z:=none) (dd:=fun _=>False) (fun _ h=>by cases h) (fun _ h=>h.elim) hk hlo hN (fun i o hi=>.inl (hT i o hi)) hlT hlS b k cs (fun _ _ h=>by cases h) fuel t listed tm σ β a w h1 h2 h3 h4 h5 h6 h7 h8 h9 (fun _ _ h=>h) with ⟨_,h⟩ | ⟨h,_⟩
 ·exact h
 ·exact absurd rfl h
theorem EvK.draw {k:List KI} {id:Nat} {tm:List AVal} {σ:Store} (fs:List Fp) (n0 N:Nat) (hm:P.follows .mixedOrders=true) (hok:drawOk ops fs n0 N=true) (h0 : σ.length=n0) (hN:n0≤N) (h:drawK P lo Q k ops ops.toList fs tm (padS N σ)) :
  EvK P lo Q (.code (.region id ops true) :: k) .normal ⟨tm,σ⟩:=by
 have hk:=Zk3 hok
 obtain ⟨TM,SS,e1,e2,e3,e4⟩:=Zg7 _ _ _ _ h
 have hlen:ops.toList.length=ops.size:=by simp
 rw [hlen] at e4
 have hT:∀ i o,ops[i]? = some o→StepT P ops (fpAt fs i) o (TM i) (SS i) (TM (i+1)) (SS (i+1)):=fun i o hi=>e3 i o (by simpa using hi)
 have hl:∀ i,i≤ops.size→(TM i).length=(TM 0).length∧(SS i).length=N:=by
  intro i
  induction i with
  | zero=>intro _;exact ⟨rfl,by rw [e2,Zml (by omega)]⟩
  | succ i ih =>
   intro hi
   have:=(hT i ops[i] (Array.getElem?_eq_getElem (by omega))).len
   have:=ih (by omega)
   omega
 intro X base mb D β a w b kk cs h1 h2 h3 _
 simp only at h1
 have hrel:Rel X base mb D ⟨TM 0,SS 0⟩ β a { w with drawn:=w.drawn+1 }:=by
  have:=Zqp (n:=w.drawn+1) h3
  rw [e1,e2]
  exact ⟨this.s.pad (by simp only;omega),this.n,fun j hj=>by rw [Yd8];exact this.t j hj,this.d⟩
 obtain ⟨β',a',w',r1,r2,r3⟩:=Yav (lo:=lo) hk (by omega) hN (fun i o hi=>.inl (hT i o hi)) (fun i hi=>(hl i hi).1) (fun i hi=>(hl i hi).2) b kk cs ops.size (w.tape w.drawn (.order b.fn id)) (Array.replicate ops.size false) (TM 0) (SS 0) β a { w with drawn:=w.drawn+1 } (by simp)
  (by simp [todoN]) (fun i j _ hj=>by simp [Array.getD_eq_getD_getElem?,Array.getElem?_replicate] at hj;split at hj<;>simp at hj)
  (by
   have:(fun j=>(Array.replicate ops.size false).getD j false=true)=fun _=>False:=funext fun j=>by simp [Array.getD_eq_getD_getElem?,Array.getElem?_replicate];split<;>simp
   rw [this];exact InvD.init)
  (by
   have:(fun j=>(Array.replicate ops.size false).getD j false=true)=fun _=>False:=funext fun j=>by simp [Array.getD_eq_getD_getElem?,Array.getElem?_replicate];split<;>simp
   rw [this];exact InvD.init)
  rfl (hl 0 (Nat.zero_le _)).2 (fun i c hi _ hc=>h3.s.dom c (by simp only;have:=(hk.nam i hi c hc).1;omega)) hrel
 rw [e2] at r2
 refine ⟨.normal,⟨TM ops.size,SS ops.size⟩,β',a',w',e4,?_,r1,?_, .head stepR_region_draw ?_⟩
 ·have:=(hl ops.size (Nat.le_refl _)).2
  simp only;omega
 ·exact ⟨r2.os,r2.tape,r2.output,r2.size,fun g o v hc hn=>r2.cell g o v hc fun hm=>hn (Zgh.1 hm),fun g hg hn=>r2.block g hg fun o hm=>hn o (Zgh.1 hm),fun g o hm=>(r2.newM g o hm).imp Zgh.1 (fun h=>h),r2.env⟩
 ·have hs:Region.schedule (P.follows .mixedOrders) ops (w.tape w.drawn (.order b.fn id))=Region.linearise.go .any ops ops.size (w.tape w.drawn (.order b.fn id)) (Array.replicate ops.size false) []:=by
   simp only [Region.schedule,hm,Bool.true_or,if_true];rfl
  rw [hs];exact r3
end
end Go.Abs
