/- Part 17 of my own framework and of the walks of functions: AbsR. -/
import Derived.Test.YtfjbdamcmiglgaaGreatOwn16
set_option linter.unusedVariables false
set_option linter.unusedSectionVars false
set_option linter.unusedSimpArgs false
namespace Go.dm
open Go
mutual
def pT (F:Nat→Bool) (σ:ai):ah→ah→Prop
 | .ps sz ts,a=>match a with
  | .aW=>ts=[]
  | .ps yh es=>yh=sz∧lj F σ ts es
  | .os b off n yh=>yh=sz∧F b=true∧match bP σ b with
   | some (.row es _)=>off+n≤es.length∧lj F σ ts ((es.drop off).take n)
   | _=>False
  | _=>False
 | .pm wg uB,a=>match a with
  | .pm ks vs=>lj F σ wg ks∧lj F σ uB vs
  | .map b=>F b=true∧match bP σ b with
   | some (.map ks vs _)=>lj F σ wg ks∧lj F σ uB vs
   | _=>False
  | _=>False
 | .agg nL,a=>match a with
  | .agg cs=>lj F σ nL cs
  | _=>False
 | .dT nL,a=>match a with
  | .dT cs=>lj F σ nL cs
  | _=>False
 | .pp nL,a=>match a with
  | .pp cs=>lj F σ nL cs
  | _=>False
 | .iface t' v',a=>match a with
  | .iface t v=>t'=t∧pT F σ v' v
  | _=>False
 | .fn f' x' y',a=>match a with
  | .fn f x y=>f'=f∧lj F σ x' x∧lj F σ y' y
  | _=>False
 | .undef,a=>cX a=false
 | t,a=>a=t
def lj (F:Nat→Bool) (σ:ai):List ah→List ah→Prop
 | [],cD=>cD=[]
 | t :: ts,cD=>match cD with
  | []=>False
  | a :: cD=>pT F σ t a∧lj F σ ts cD
end
mutual
theorem xa (F:Nat→Bool) (σ:ai):∀ t:ah,pT F σ t t
 | .ps _ ts=>⟨rfl,cx F σ ts⟩
 | .pm ks vs=>⟨cx F σ ks,cx F σ vs⟩
 | .agg cs=>cx F σ cs
 | .dT cs=>cx F σ cs
 | .pp cs=>cx F σ cs
 | .iface _ v=>⟨rfl,xa F σ v⟩
 | .fn _ x y=>⟨rfl,cx F σ x,cx F σ y⟩
 | .undef=>rfl
 | .bool _=>rfl
 | .int _ _=>rfl
 | .str _=>rfl
 | .bY=>rfl
 | .ptr _ _=>rfl
 | .rp _ _ _=>rfl
 | .aW=>rfl
 | .os _ _ _ _=>rfl
 | .oc _ _ _ _ _=>rfl
 | .iH=>rfl
 | .aA=>rfl
 | .lN _=>rfl
 | .cM=>rfl
 | .map _=>rfl
 | .it _=>rfl
 | .gk=>rfl
 | .oD _=>rfl
theorem cx (F:Nat→Bool) (σ:ai):∀ ts:List ah,lj F σ ts ts
 | []=>rfl
 | t :: ts=>⟨xa F σ t,cx F σ ts⟩
end
def w6 (w:World) (M:Nat→Nat→Prop) (β:Env) (t a:ah):Prop :=
 (∀ v,cf w M β v a→cf w M β v t)∧t.cells.length=a.cells.length∧∀ j v,j<t.cells.length→cf w M β v (a.cells.getD j .undef)→cf w M β v (t.cells.getD j .undef)
section
variable {P:Program} {X:Nat→Nat→Prop} {base:Nat} {σ lI:ai} {β:Env} {w:World} {F:Nat→Bool}
theorem w6.cell {M:Nat→Nat→Prop} {t a:ah} (ht:cX t=false) (ha:cX a=false) (h:∀ v,cf w M β v a→cf w M β v t):w6 w M β t a:=by
 have h1:t.cells=[t]:=by cases t<;>simp_all [ah.cells,cX]
 have h2:a.cells=[a]:=by cases a<;>simp_all [ah.cells,cX]
 refine ⟨h,by rw [h1,h2];rfl,fun j v hj hv=>?_⟩;rw [h1] at hj ⊢;rw [h2] at hv;obtain rfl:j=0:=by simpa using hj
 exact h v hv
structure C7 (F:Nat→Bool) (σ lI:ai):Prop where
 pf:Ix σ lI
 row:∀ (b:Nat) es fz,F b=true→lI[b]? = some (some (.row es fz))→es.length≤fz
 map:∀ (b:Nat) ks vs f,F b=true→lI[b]? = some (some (.map ks vs f))→f=true
mutual
theorem G1 (hr:cS X base lI β w) (hf:C7 F σ lI):∀ (t:ah) {a:ah},pT F σ t a→w6 w (MT X lI β) β t a
 | .ps sz ts,a,h=>by
  cases a with
  | aW =>
   simp only [pT] at h;subst h;refine .cell rfl rfl fun v hv=>?_;cases hv with
   | aW ad=>exact cf.ps (es:=[]) (fun _ _=>undef) (by simp) (fun i hi=>by simp at hi) (fun i j hi=>by simp at hi) (fun h0=>by simp at h0) (fun i j hi=>by simp at hi)
  | ps yh es =>
   simp only [pT] at h;obtain ⟨rfl,h⟩:=h;obtain ⟨h1,h2⟩:=uT hr hf ts h;refine .cell rfl rfl fun v hv=>?_;cases hv with
   | ps cv jH fJ hc ha pV =>
    rw [← h1] at jH ⊢;refine .ps cv jH (fun i hi=>?_) (fun i j hi hj=>hc i j (by omega) hj) (fun h0=>ha (by omega)) (fun i j hi hj=>?_)
    ·rw [(h2 i hi).2.1];exact fJ i (by omega)
    ·refine (h2 i hi).2.2 j _ ?_ (pV i j (by omega) hj);rw [(h2 i hi).2.1,fJ i (by omega)];exact hj
  | os b off n yh =>
   simp only [pT] at h;obtain ⟨rfl,Oh,h⟩:=h;split at h
   ·rename_i es fz0 hb;obtain ⟨hn,h⟩:=h;obtain ⟨y,oP,AK⟩:=hf.pf.to b _ (kq hb);cases y with
    | row tb fz =>
     simp only [bO.yr] at AK;obtain ⟨rfl,_⟩:=AK;have FJ:=hf.row b _ _ Oh oP;obtain ⟨h1,h2⟩:=uT hr hf ts h;have hlen:((es.drop off).take n).length=n:=by simp;omega
     have eJ:∀ i,i<n→((es.drop off).take n).getD i .undef=es.getD (off+i) .undef:=fun i hi=>by simp [List.getD,hi]
     rw [hlen] at h1;obtain ⟨L,q1,q1b,Qf,c,e,q2,q3,q4,q5,q6⟩:=hr.cw b _ oP;refine .cell rfl rfl fun v hv=>?_;have FV:∃ a cap,v = .slice a n cap∧L.sz=yh∧n≤cap∧(0<n→a=some ⟨L.g,L.o+off*L.sz,none⟩):=by
      cases hv with
      | tU ad hh=>obtain rfl:=aP (hh.symm.trans q1);exact ⟨ad,0,rfl,rfl,by simp,fun h0=>by omega⟩
      | os hh hl hc=>obtain rfl:=aP (hh.symm.trans q1);exact ⟨_,_,rfl,rfl,hl,fun _=>rfl⟩
     obtain ⟨ad,cap,rfl,rfl,jH,XQ⟩:=FV;rw [← h1];refine .ps (fun i j=>c.getD (L.o+(off+i)*L.sz+j) undef) (by omega) (fun i hi=>?_) (fun i j hi hj=>?_) (fun h0=>⟨_,_,XQ (by omega)⟩) (fun i j hi hj=>?_)
     ·rw [(h2 i hi).2.1,eJ i (by omega)];exact q5 _ (by omega)
     ·have h7:(off+i+1)*L.sz≤L.n*L.sz:=bf _ (by omega);have h8:(off+i+1)*L.sz≤fz*L.sz:=bf _ (by omega);rw [bQ,dL] at h7 h8;have e1:L.o+off*L.sz+i*L.sz+j=L.o+(off+i)*L.sz+j:=by rw [bQ];omega
      refine ⟨L.g,L.o+off*L.sz,XQ (by omega),?_,?_⟩
      ·rw [e1,cell_of_row w L.g _ c e (0,0) q2,uO (by omega)]
      ·rw [e1];rintro (hx | ⟨b2,y2,L2,m1,m2,m3,m4⟩)
       ·exact Qf _ hx
       ·obtain rfl:=hr.inj b2 b y2 _ L2 L m1 oP m2 q1 m3;rw [oP] at m1;cases m1;obtain rfl:=aP (m2.symm.trans q1);simp only [bO.mut] at m4;omega
     ·refine (h2 i hi).2.2 j _ ?_ ?_
      ·rw [(h2 i hi).2.1,eJ i (by omega),q5 _ (by omega)];exact hj
      ·rw [eJ i (by omega)];exact q6 (off+i) j (by omega) hj
    | _=>simp only [bO.yr,reduceCtorEq] at AK
   ·exact h.elim
  | _=>simp only [pT] at h
 | .pm wg uB,a,h=>by
  cases a with
  | pm ks vs =>
   simp only [pT] at h;obtain ⟨h1,h2⟩:=uT hr hf wg h.1;obtain ⟨h3,h4⟩:=uT hr hf uB h.2;refine .cell rfl rfl fun v hv=>?_;cases hv with
   | pm hg hm hk FV ov nP rZ=>exact .pm hg hm (by omega) (by omega) (fun k e7=>(h2 k (by omega)).1 _ (ov k (by omega))) (fun k e7=>(h4 k (by omega)).1 _ (nP k (by omega))) rZ
  | map b =>
   simp only [pT] at h;obtain ⟨Oh,h⟩:=h;split at h
   ·rename_i ks vs f0 hb;obtain ⟨y,oP,AK⟩:=hf.pf.to b _ (kq hb);cases y with
    | map ks2 vs2 f =>
     simp only [bO.yr] at AK;obtain ⟨rfl,rfl,_⟩:=AK;obtain rfl:=hf.map b _ _ _ Oh oP;obtain ⟨h1,h2⟩:=uT hr hf wg h.1;obtain ⟨h3,h4⟩:=uT hr hf uB h.2;obtain ⟨L,q1,q1b,Qf,es,clk,q2,q3,q4,q5,q6,q7⟩:=hr.cw b _ oP;refine .cell rfl rfl fun v hv=>?_;cases hv with
     | map hh =>
      obtain rfl:=aP (hh.symm.trans q1);refine .pm q2 ?_ (by omega) (by omega) (fun k e7=>(h2 k (by omega)).1 _ (q5 k (by omega))) (fun k e7=>(h4 k (by omega)).1 _ (q6 k (by omega))) q7;rintro (hx | ⟨b2,y2,L2,m1,m2,m3,m4⟩)
      ·exact Qf _ hx
      ·obtain rfl:=hr.inj b2 b y2 _ L2 _ m1 oP m2 q1 m3;rw [oP] at m1;cases m1;simp [bO.mut] at m4
    | _=>simp only [bO.yr,reduceCtorEq] at AK
   ·exact h.elim
  | _=>simp only [pT] at h
 | .agg nL,a,h=>by
  cases a with
  | agg cs =>
   simp only [pT] at h;obtain ⟨h1,h2⟩:=uT hr hf nL h;refine ⟨fun v hv=>?_,h1,fun j v hj hv=>?_⟩
   ·cases hv with
    | agg hn pV=>exact .agg (by omega) fun k hk=>(h2 k (by omega)).1 _ (pV k (by omega))
   ·exact (h2 j hj).1 _ hv
  | _=>simp only [pT] at h
 | .dT nL,a,h=>by
  cases a with
  | dT cs =>
   simp only [pT] at h;obtain ⟨h1,h2⟩:=uT hr hf nL h;refine .cell rfl rfl fun v hv=>?_;cases hv with
   | dT hn pV=>exact .dT (by omega) fun k hk=>(h2 k (by omega)).1 _ (pV k (by omega))
  | _=>simp only [pT] at h
 | .pp nL,a,h=>by
  cases a with
  | pp cs =>
   simp only [pT] at h;obtain ⟨h1,h2⟩:=uT hr hf nL h;refine .cell rfl rfl fun v hv=>?_;cases hv with
   | pp cv hc pV=>exact .pp cv (fun k hk=>hc k (by omega)) fun k hk=>(h2 k hk).1 _ (pV k (by omega))
  | _=>simp only [pT] at h
 | .iface t' v',a,h=>by
  cases a with
  | iface t v2 =>
   simp only [pT] at h;obtain ⟨rfl,h⟩:=h;have h1:=G1 hr hf v' h;refine .cell rfl rfl fun v hv=>?_;cases hv with
   | iface h2=>exact .iface (h1.1 _ h2)
  | _=>simp only [pT] at h
 | .fn f' x' y',a,h=>by
  cases a with
  | fn f x y =>
   simp only [pT] at h;obtain ⟨rfl,ha,hb⟩:=h;obtain ⟨h1,h2⟩:=uT hr hf x' ha;obtain ⟨h3,h4⟩:=uT hr hf y' hb;refine .cell rfl rfl fun v hv=>?_;cases hv with
   | fn e1 e2 r1 r2=>exact .fn (by omega) (by omega) (fun k hk=>(h2 k hk).1 _ (r1 k (by omega))) (fun k hk=>(h4 k hk).1 _ (r2 k (by omega)))
  | _=>simp only [pT] at h
 | .undef,a,h=>.cell rfl h fun v _=>.undef v
 | .bool _,a,h=>by simp only [pT] at h;subst h;exact .cell rfl rfl fun v hv=>hv
 | .int _ _,a,h=>by simp only [pT] at h;subst h;exact .cell rfl rfl fun v hv=>hv
 | .str _,a,h=>by simp only [pT] at h;subst h;exact .cell rfl rfl fun v hv=>hv
 | .bY,a,h=>by simp only [pT] at h;subst h;exact .cell rfl rfl fun v hv=>hv
 | .ptr _ _,a,h=>by simp only [pT] at h;subst h;exact .cell rfl rfl fun v hv=>hv
 | .rp _ _ _,a,h=>by simp only [pT] at h;subst h;exact .cell rfl rfl fun v hv=>hv
 | .aW,a,h=>by simp only [pT] at h;subst h;exact .cell rfl rfl fun v hv=>hv
 | .os _ _ _ _,a,h=>by simp only [pT] at h;subst h;exact .cell rfl rfl fun v hv=>hv
 | .oc _ _ _ _ _,a,h=>by simp only [pT] at h;subst h;exact .cell rfl rfl fun v hv=>hv
 | .iH,a,h=>by simp only [pT] at h;subst h;exact .cell rfl rfl fun v hv=>hv
 | .aA,a,h=>by simp only [pT] at h;subst h;exact .cell rfl rfl fun v hv=>hv
 | .lN _,a,h=>by simp only [pT] at h;subst h;exact .cell rfl rfl fun v hv=>hv
 | .cM,a,h=>by simp only [pT] at h;subst h;exact .cell rfl rfl fun v hv=>hv
 | .map _,a,h=>by simp only [pT] at h;subst h;exact .cell rfl rfl fun v hv=>hv
 | .it _,a,h=>by simp only [pT] at h;subst h;exact .cell rfl rfl fun v hv=>hv
 | .gk,a,h=>by simp only [pT] at h;subst h;exact .cell rfl rfl fun v hv=>hv
 | .oD _,a,h=>by simp only [pT] at h;subst h;exact .cell rfl rfl fun v hv=>hv
theorem uT (hr:cS X base lI β w) (hf:C7 F σ lI):∀ (ts:List ah) {cD:List ah},lj F σ ts cD→ts.length=cD.length∧∀ k,k<ts.length→w6 w (MT X lI β) β (ts.getD k .undef) (cD.getD k .undef)
 | [],cD,h=>by simp only [lj] at h;subst h;exact ⟨rfl,fun k hk=>by simp at hk⟩
 | t :: ts,cD,h=>by
  cases cD with
  | nil=>simp only [lj] at h
  | cons a cD =>
   simp only [lj] at h;obtain ⟨h1,h2⟩:=uT hr hf ts h.2;have h0:=G1 hr hf t h.1;refine ⟨by simp [h1],fun k hk=>?_⟩;cases k with
   | zero=>exact h0
   | succ k=>exact h2 k (by simpa using hk)
end
def ke:Option bO→Option bO
 | some (.row es fz)=>some (.row es (max fz es.length))
 | some (.map ks vs _)=>some (.map ks vs true)
 | x=>x
def gD (F:Nat→Bool):Nat→ai→ai
 | _,[]=>[]
 | i,b :: r=>(if F i=true then ke b else b) :: gD F (i+1) r
theorem Fe (F:Nat→Bool):∀ (σ:ai) (i b:Nat),(gD F i σ)[b]? = (σ[b]?).map fun x=>if F (i+b)=true then ke x else x
 | [],i,b=>by simp [gD]
 | x :: σ,i,0=>by simp [gD]
 | x :: σ,i,b+1=>by
  simp only [gD,dI,Fe F σ (i+1) b];rw [show i+1+b=i+(b+1) by omega]
theorem JG (F:Nat→Bool):∀ (σ:ai) (i:Nat),(gD F i σ).length = σ.length
 | [],i=>rfl
 | x :: σ,i=>by simp [gD,JG F σ (i+1)]
theorem W8 {x y:bO} (h:ke (some x)=some y):x.yr y:=by
 cases x<;>simp only [ke,aH] at h<;>subst h<;>simp only [bO.yr,true_and,implies_true,and_self];exact Nat.le_max_left _ _
theorem Yhq (x:bO):∃ y,ke (some x)=some y:=by cases x<;>exact ⟨_,rfl⟩
theorem A8 (F:Nat→Bool) (σ:ai):C7 F σ (gD F 0 σ):=by
 refine ⟨⟨JG F σ 0,fun b x hb=>?_,fun b y hb=>?_⟩,fun b es fz hF hb=>?_,fun b ks vs f hF hb=>?_⟩
 ·rw [Fe,hb];simp only [bM,bq];split
  ·obtain ⟨y,hy⟩:=Yhq x;exact ⟨y,by rw [hy],W8 hy⟩
  ·exact ⟨x,rfl,bO.ve x⟩
 ·rw [Fe] at hb;simp only [aI,bq] at hb;obtain ⟨o,h1,h2⟩:=hb;cases o with
  | none=>split at h2<;>simp [ke] at h2
  | some x =>
   refine ⟨x,h1,?_⟩;split at h2
   ·exact W8 h2
   ·cases h2;exact bO.ve _
 ·rw [Fe] at hb;simp only [aI,bq,hF,if_true] at hb;obtain ⟨o,h1,h2⟩:=hb;cases o with
  | none=>simp [ke] at h2
  | some x =>
   cases x<;>simp only [ke,aH,bO.row.injEq,reduceCtorEq] at h2;obtain ⟨rfl,rfl⟩:=h2;exact Nat.le_max_right _ _
 ·rw [Fe] at hb;simp only [aI,bq,hF,if_true] at hb;obtain ⟨o,h1,h2⟩:=hb;cases o with
  | none=>simp [ke] at h2
  | some x =>
   cases x<;>simp only [ke,aH,bO.map.injEq,reduceCtorEq] at h2;exact h2.2.2.symm
def among (bs:List Nat) (b:Nat):Bool:=bs.any (· == b)
theorem je:∀ (σ:ai) (i:Nat),gD (among []) i σ = σ
 | [],_=>rfl
 | x :: σ,i=>by simp [gD,among,je σ (i+1)]
theorem cg.CX {g:FuncId} {args:List ah} {r:ah} (h:cg P g args [] (fun r0 σ'=>pT (fun _=>true) σ' r r0)) (hl:r.low 0):aD P g args r:=by
 refine ⟨?_,hl⟩;intro X base β w vs h1 h2 h3 fr cs h4;obtain ⟨r0,σ',β',v,w',q,g1,g2,g3,g4,g5⟩:=h X base β w vs h1 h2 h3 fr cs h4;have hf:=A8 (fun _=>true) σ';generalize zD:gD (fun _=>true) 0 σ' = lI at hf;have CQ:=g1.pf hf.pf;have pV:=(G1 CQ hf r q).1 v (g2.mono (Ci hf.pf) (fun _ _ h=>h));have hs:=CQ.drop (σ':=[]) (n:=0) (fun b x hb=>by simp at hb) rfl (fun b x hb=>by simp at hb);have sm:=cf.drop (σ':=[]) (n:=0) pV (fun b x hb=>by simp at hb) rfl hl;exact ⟨r,[],_,v,w',⟨rfl,rfl⟩,hs,sm,g3.drop (σ':=[]) (n:=0) (fun b x hb=>by simp at hb) rfl (Nat.le_refl 0),Nat.zero_le _,g5⟩
theorem aq.bS {g:FuncId} {first captured args args':List ah} {K:ah→ai→Prop} {r:ah} (bs:List Nat) (hc:aD P g args' r) (hp:lj (among bs) σ args' (first++args++captured)) (hl:bF 0 args')
  (hk:K r (if bC r then σ else gD (among bs) 0 σ)):aq P (.fn g first captured) args σ K:=by
 refine aq.sh ?_;intro X base β w vs h1 h2 h3 fr cs h4;have oM:=A8 (among bs) σ;generalize zD:gD (among bs) 0 σ = lI at *
 have hf:=oM.pf;have yu:=h1.pf hf;obtain ⟨e1,e2⟩:=uT yu oM args' hp;have e3:∀ k,k<args'.length→cf w (MT X lI β) β (vs.getD k undef) (args'.getD k .undef):=fun k e7=>(e2 k e7).1 _ ((h3 k (by omega)).mono (Ci hf) (fun _ _ h=>h));have EA:∀ b,b<0→(fun _=>none:Env) b = β b:=fun b hb=>by omega
 have Oo:∀ g' o,MT X lI β g' o→g'<w.heap.size:=by
  rintro g' o (hx | ⟨b,y,L,m1,m2,rfl,m4⟩)
  ·exact h1.qL g' o hx
  ·exact GZ yu m1 m2
 have ow:cS (MT X lI β) base [] (fun _=>none) w:=⟨fun _ _=>rfl,fun b y hb=>by simp at hb,fun b b' y y' L L' hb=>by simp at hb,h1.size,Oo,h1.gl⟩;have y7:∀ (β':Env) (w:World),dD w (MT X lI β) w (MT (MT X lI β) [] β'):=fun β' w=>dD.mh fun g' o h=>by rcases h with h | h;exact h;exact absurd h Fz
 have DU:∀ (β':Env) (w:World),dD w (MT (MT X lI β) [] β') w (MT X lI β):=fun β' w=>dD.mh fun g' o h=>.inl h;obtain ⟨r',σ',β',v,w',⟨rfl,rfl⟩,g1,g2,g3,g4,g5⟩:=hc.1 (MT X lI β) base (fun _=>none) w vs ow (by omega) (fun k e7 =>
  ((e3 k (by omega)).low EA (jz hl k)).mono (y7 _ _) (fun _ _ h=>h)) fr cs h4
 have jI:∀ g',g'<w.heap.size→w'.heap[g']? = w.heap[g']?:=fun g' uI=>g3.block g' uI fun o=>Fz;have xo:∀ jq,(∀ g' o,jr jq β g' o→jr σ β g' o)→Ext σ.length σ β w jq β w':=fun jq h =>
  ⟨g3.os,g3.tape,g3.output,g3.size,fun g' o x Hy _=>by rw [World.cell?_of_block (w:=w) (a:=⟨g',o,none⟩) (jI g' (yP Hy))];exact Hy,fun g' uI _=>jI g' uI,fun g' o hm=>.inl (h g' o hm),fun _ _=>rfl⟩
 by_cases D0:bC r'=true
 ·rw [if_pos D0] at hk;exact ⟨r',σ,β,v,w',hk,(h1.kept g3.size jI).1,V0 g2 D0,xo σ (fun _ _ h=>h),ae _,g5⟩
 ·rw [if_neg D0] at hk;refine ⟨r',lI,β,v,w',hk,(yu.kept g3.size jI).1,?_,xo lI (fun _ _ h=>h.pf hf),by rw [hf.len];exact ae _,g5⟩;exact (g2.mono (DU _ _) (fun _ _ h=>h)).low (fun b hb=>by omega) hc.2
def F3 (r r0:ah) (σ':ai):Prop:=pT (fun _=>true) σ' r r0
theorem aD.begin {g:FuncId} {fn:Func} {c:Code} {args:List ah} {r:ah} {m:Nat} {rs:List ResultVar} (n:Nat) (hf:P.funcs[g]? = some fn) (hb:fn.body=some c) (hr:fn.results.toList=rs) (hm:fn.ntmps - args.length=m)
  (ff : (fn.name == "runtime.NumGoroutine") = false) (hl : r.low 0)
  (h:eF P ⟨0,none⟩ (rq P rs (F3 r)) n [.code c] .normal (args++List.replicate m .undef) []):aD P g args r :=
 cg.CX (cg.start n hf hb hr hm ff h) hl
end
end Go.dm
