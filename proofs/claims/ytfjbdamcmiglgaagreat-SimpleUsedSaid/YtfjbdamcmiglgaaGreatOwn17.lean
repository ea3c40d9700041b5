/- Part 17 of my own framework and of the walks of functions: AbsR. -/
import Derived.Test.YtfjbdamcmiglgaaGreatOwn16
set_option linter.unusedVariables false
set_option linter.unusedSectionVars false
set_option linter.unusedSimpArgs false
namespace Go.cV
open Go
mutual
def pT (F:Nat→Bool) (σ:ai):ae→ae→Prop
 | .ps sz ts,a=>match a with
  | .aU=>ts=[]
  | .ps xc es=>xc=sz∧kz F σ ts es
  | .os b off n xc=>xc=sz∧F b=true∧match bF σ b with
   | some (.row es _)=>off+n≤es.length∧kz F σ ts ((es.drop off).take n)
   | _=>False
  | _=>False
 | .pm uX s_,a=>match a with
  | .pm ks vs=>kz F σ uX ks∧kz F σ s_ vs
  | .map b=>F b=true∧match bF σ b with
   | some (.map ks vs _)=>kz F σ uX ks∧kz F σ s_ vs
   | _=>False
  | _=>False
 | .agg mV,a=>match a with
  | .agg cs=>kz F σ mV cs
  | _=>False
 | .dy mV,a=>match a with
  | .dy cs=>kz F σ mV cs
  | _=>False
 | .pp mV,a=>match a with
  | .pp cs=>kz F σ mV cs
  | _=>False
 | .iface t' v',a=>match a with
  | .iface t v=>t'=t∧pT F σ v' v
  | _=>False
 | .fn f' x' y',a=>match a with
  | .fn f x y=>f'=f∧kz F σ x' x∧kz F σ y' y
  | _=>False
 | .undef,a=>cL a=false
 | t,a=>a=t
def kz (F:Nat→Bool) (σ:ai):List ae→List ae→Prop
 | [],ck=>ck=[]
 | t :: ts,ck=>match ck with
  | []=>False
  | a :: ck=>pT F σ t a∧kz F σ ts ck
end
mutual
theorem vX (F:Nat→Bool) (σ:ai):∀ t:ae,pT F σ t t
 | .ps _ ts=>⟨rfl,cH F σ ts⟩
 | .pm ks vs=>⟨cH F σ ks,cH F σ vs⟩
 | .agg cs=>cH F σ cs
 | .dy cs=>cH F σ cs
 | .pp cs=>cH F σ cs
 | .iface _ v=>⟨rfl,vX F σ v⟩
 | .fn _ x y=>⟨rfl,cH F σ x,cH F σ y⟩
 | .undef=>rfl
 | .bool _=>rfl
 | .int _ _=>rfl
 | .str _=>rfl
 | .bM=>rfl
 | .ptr _ _=>rfl
 | .rp _ _ _=>rfl
 | .aU=>rfl
 | .os _ _ _ _=>rfl
 | .oc _ _ _ _ _=>rfl
 | .gZ=>rfl
 | .az=>rfl
 | .ld _=>rfl
 | .cy=>rfl
 | .map _=>rfl
 | .it _=>rfl
 | .fE=>rfl
 | .nM _=>rfl
theorem cH (F:Nat→Bool) (σ:ai):∀ ts:List ae,kz F σ ts ts
 | []=>rfl
 | t :: ts=>⟨vX F σ t,cH F σ ts⟩
end
def vU (w:World) (M:Nat→Nat→Prop) (β:Env) (t a:ae):Prop :=
 (∀ v,bR w M β v a→bR w M β v t)∧t.cells.length=a.cells.length∧∀ j v,j<t.cells.length→bR w M β v (a.cells.getD j .undef)→bR w M β v (t.cells.getD j .undef)
section
variable {P:Program} {X:Nat→Nat→Prop} {base:Nat} {σ kU:ai} {β:Env} {w:World} {F:Nat→Bool}
theorem vU.cell {M:Nat→Nat→Prop} {t a:ae} (ht:cL t=false) (ha:cL a=false) (h:∀ v,bR w M β v a→bR w M β v t):vU w M β t a:=by
 have h1:t.cells=[t]:=by cases t<;>simp_all [ae.cells,cL]
 have h2:a.cells=[a]:=by cases a<;>simp_all [ae.cells,cL]
 refine ⟨h,by rw [h1,h2];rfl,fun j v hj hv=>?_⟩
 rw [h1] at hj ⊢;rw [h2] at hv
 obtain rfl:j=0:=by simpa using hj
 exact h v hv
structure B5 (F:Nat→Bool) (σ kU:ai):Prop where
 oq:He σ kU
 row:∀ (b:Nat) es fz,F b=true→kU[b]? = some (some (.row es fz))→es.length≤fz
 map:∀ (b:Nat) ks vs f,F b=true→kU[b]? = some (some (.map ks vs f))→f=true
mutual
theorem FB (hr:cF X base kU β w) (hf:B5 F σ kU):∀ (t:ae) {a:ae},pT F σ t a→vU w (MT X kU β) β t a
 | .ps sz ts,a,h=>by
  cases a with
  | aU =>
   simp only [pT] at h
   subst h
   refine .cell rfl rfl fun v hv=>?_
   cases hv with
   | aU ad=>exact bR.ps (es:=[]) (fun _ _=>undef) (by simp) (fun i hi=>by simp at hi) (fun i j hi=>by simp at hi) (fun h0=>by simp at h0) (fun i j hi=>by simp at hi)
  | ps xc es =>
   simp only [pT] at h
   obtain ⟨rfl,h⟩:=h
   obtain ⟨h1,h2⟩:=tJ hr hf ts h
   refine .cell rfl rfl fun v hv=>?_
   cases hv with
   | ps cv jf ft hc ha qq =>
    rw [← h1] at jf ⊢
    refine .ps cv jf (fun i hi=>?_) (fun i j hi hj=>hc i j (by omega) hj) (fun h0=>ha (by omega)) (fun i j hi hj=>?_)
    ·rw [(h2 i hi).2.1];exact ft i (by omega)
    ·refine (h2 i hi).2.2 j _ ?_ (qq i j (by omega) hj)
     rw [(h2 i hi).2.1,ft i (by omega)];exact hj
  | os b off n xc =>
   simp only [pT] at h
   obtain ⟨rfl,Mh,h⟩:=h
   split at h
   ·rename_i es fz0 hb
    obtain ⟨hn,h⟩:=h
    obtain ⟨y,nW,zw⟩:=hf.oq.to b _ (jU hb)
    cases y with
    | row pX fz =>
     simp only [bE.xn] at zw
     obtain ⟨rfl,_⟩:=zw
     have Ew:=hf.row b _ _ Mh nW
     obtain ⟨h1,h2⟩:=tJ hr hf ts h
     have hlen:((es.drop off).take n).length=n:=by simp;omega
     have eH:∀ i,i<n→((es.drop off).take n).getD i .undef=es.getD (off+i) .undef:=fun i hi=>by simp [List.getD,hi]
     rw [hlen] at h1
     obtain ⟨L,q1,q1b,N6,c,e,q2,q3,q4,q5,q6⟩:=hr.cf b _ nW
     refine .cell rfl rfl fun v hv=>?_
     have NJ:∃ a cap,v = .slice a n cap∧L.sz=xc∧n≤cap∧(0<n→a=some ⟨L.g,L.o+off*L.sz,none⟩):=by
      cases hv with
      | sv ad hh=>obtain rfl:=aM (hh.symm.trans q1);exact ⟨ad,0,rfl,rfl,by simp,fun h0=>by omega⟩
      | os hh hl hc=>obtain rfl:=aM (hh.symm.trans q1);exact ⟨_,_,rfl,rfl,hl,fun _=>rfl⟩
     obtain ⟨ad,cap,rfl,rfl,jf,Vk⟩:=NJ
     rw [← h1]
     refine .ps (fun i j=>c.getD (L.o+(off+i)*L.sz+j) undef) (by omega) (fun i hi=>?_) (fun i j hi hj=>?_) (fun h0=>⟨_,_,Vk (by omega)⟩) (fun i j hi hj=>?_)
     ·rw [(h2 i hi).2.1,eH i (by omega)];exact q5 _ (by omega)
     ·have h7:(off+i+1)*L.sz≤L.n*L.sz:=aW _ (by omega)
      have h8:(off+i+1)*L.sz≤fz*L.sz:=aW _ (by omega)
      rw [bH,dv] at h7 h8
      have e1:L.o+off*L.sz+i*L.sz+j=L.o+(off+i)*L.sz+j:=by rw [bH];omega
      refine ⟨L.g,L.o+off*L.sz,Vk (by omega),?_,?_⟩
      ·rw [e1,cell_of_row w L.g _ c e (0,0) q2,tD (by omega)]
      ·rw [e1]
       rintro (hx | ⟨b2,y2,L2,m1,m2,m3,m4⟩)
       ·exact N6 _ hx
       ·obtain rfl:=hr.inj b2 b y2 _ L2 L m1 nW m2 q1 m3
        rw [nW] at m1
        cases m1
        obtain rfl:=aM (m2.symm.trans q1)
        simp only [bE.mut] at m4
        omega
     ·refine (h2 i hi).2.2 j _ ?_ ?_
      ·rw [(h2 i hi).2.1,eH i (by omega),q5 _ (by omega)];exact hj
      ·rw [eH i (by omega)];exact q6 (off+i) j (by omega) hj
    | _=>simp only [bE.xn,reduceCtorEq] at zw
   ·exact h.elim
  | _=>simp only [pT] at h
 | .pm uX s_,a,h=>by
  cases a with
  | pm ks vs =>
   simp only [pT] at h
   obtain ⟨h1,h2⟩:=tJ hr hf uX h.1
   obtain ⟨h3,h4⟩:=tJ hr hf s_ h.2
   refine .cell rfl rfl fun v hv=>?_
   cases hv with
   | pm hg hm hk NJ ou nH qM=>exact .pm hg hm (by omega) (by omega) (fun k eA=>(h2 k (by omega)).1 _ (ou k (by omega))) (fun k eA=>(h4 k (by omega)).1 _ (nH k (by omega))) qM
  | map b =>
   simp only [pT] at h
   obtain ⟨Mh,h⟩:=h
   split at h
   ·rename_i ks vs f0 hb
    obtain ⟨y,nW,zw⟩:=hf.oq.to b _ (jU hb)
    cases y with
    | map ks2 vs2 f =>
     simp only [bE.xn] at zw
     obtain ⟨rfl,rfl,_⟩:=zw
     obtain rfl:=hf.map b _ _ _ Mh nW
     obtain ⟨h1,h2⟩:=tJ hr hf uX h.1
     obtain ⟨h3,h4⟩:=tJ hr hf s_ h.2
     obtain ⟨L,q1,q1b,N6,es,clk,q2,q3,q4,q5,q6,q7⟩:=hr.cf b _ nW
     refine .cell rfl rfl fun v hv=>?_
     cases hv with
     | map hh =>
      obtain rfl:=aM (hh.symm.trans q1)
      refine .pm q2 ?_ (by omega) (by omega) (fun k eA=>(h2 k (by omega)).1 _ (q5 k (by omega))) (fun k eA=>(h4 k (by omega)).1 _ (q6 k (by omega))) q7
      rintro (hx | ⟨b2,y2,L2,m1,m2,m3,m4⟩)
      ·exact N6 _ hx
      ·obtain rfl:=hr.inj b2 b y2 _ L2 _ m1 nW m2 q1 m3
       rw [nW] at m1
       cases m1
       simp [bE.mut] at m4
    | _=>simp only [bE.xn,reduceCtorEq] at zw
   ·exact h.elim
  | _=>simp only [pT] at h
 | .agg mV,a,h=>by
  cases a with
  | agg cs =>
   simp only [pT] at h
   obtain ⟨h1,h2⟩:=tJ hr hf mV h
   refine ⟨fun v hv=>?_,h1,fun j v hj hv=>?_⟩
   ·cases hv with
    | agg hn qq=>exact .agg (by omega) fun k hk=>(h2 k (by omega)).1 _ (qq k (by omega))
   ·exact (h2 j hj).1 _ hv
  | _=>simp only [pT] at h
 | .dy mV,a,h=>by
  cases a with
  | dy cs =>
   simp only [pT] at h
   obtain ⟨h1,h2⟩:=tJ hr hf mV h
   refine .cell rfl rfl fun v hv=>?_
   cases hv with
   | dy hn qq=>exact .dy (by omega) fun k hk=>(h2 k (by omega)).1 _ (qq k (by omega))
  | _=>simp only [pT] at h
 | .pp mV,a,h=>by
  cases a with
  | pp cs =>
   simp only [pT] at h
   obtain ⟨h1,h2⟩:=tJ hr hf mV h
   refine .cell rfl rfl fun v hv=>?_
   cases hv with
   | pp cv hc qq=>exact .pp cv (fun k hk=>hc k (by omega)) fun k hk=>(h2 k hk).1 _ (qq k (by omega))
  | _=>simp only [pT] at h
 | .iface t' v',a,h=>by
  cases a with
  | iface t v2 =>
   simp only [pT] at h
   obtain ⟨rfl,h⟩:=h
   have h1:=FB hr hf v' h
   refine .cell rfl rfl fun v hv=>?_
   cases hv with
   | iface h2=>exact .iface (h1.1 _ h2)
  | _=>simp only [pT] at h
 | .fn f' x' y',a,h=>by
  cases a with
  | fn f x y =>
   simp only [pT] at h
   obtain ⟨rfl,ha,hb⟩:=h
   obtain ⟨h1,h2⟩:=tJ hr hf x' ha
   obtain ⟨h3,h4⟩:=tJ hr hf y' hb
   refine .cell rfl rfl fun v hv=>?_
   cases hv with
   | fn e1 e2 r1 r2=>exact .fn (by omega) (by omega) (fun k hk=>(h2 k hk).1 _ (r1 k (by omega))) (fun k hk=>(h4 k hk).1 _ (r2 k (by omega)))
  | _=>simp only [pT] at h
 | .undef,a,h=>.cell rfl h fun v _=>.undef v
 | .bool _,a,h=>by simp only [pT] at h;subst h;exact .cell rfl rfl fun v hv=>hv
 | .int _ _,a,h=>by simp only [pT] at h;subst h;exact .cell rfl rfl fun v hv=>hv
 | .str _,a,h=>by simp only [pT] at h;subst h;exact .cell rfl rfl fun v hv=>hv
 | .bM,a,h=>by simp only [pT] at h;subst h;exact .cell rfl rfl fun v hv=>hv
 | .ptr _ _,a,h=>by simp only [pT] at h;subst h;exact .cell rfl rfl fun v hv=>hv
 | .rp _ _ _,a,h=>by simp only [pT] at h;subst h;exact .cell rfl rfl fun v hv=>hv
 | .aU,a,h=>by simp only [pT] at h;subst h;exact .cell rfl rfl fun v hv=>hv
 | .os _ _ _ _,a,h=>by simp only [pT] at h;subst h;exact .cell rfl rfl fun v hv=>hv
 | .oc _ _ _ _ _,a,h=>by simp only [pT] at h;subst h;exact .cell rfl rfl fun v hv=>hv
 | .gZ,a,h=>by simp only [pT] at h;subst h;exact .cell rfl rfl fun v hv=>hv
 | .az,a,h=>by simp only [pT] at h;subst h;exact .cell rfl rfl fun v hv=>hv
 | .ld _,a,h=>by simp only [pT] at h;subst h;exact .cell rfl rfl fun v hv=>hv
 | .cy,a,h=>by simp only [pT] at h;subst h;exact .cell rfl rfl fun v hv=>hv
 | .map _,a,h=>by simp only [pT] at h;subst h;exact .cell rfl rfl fun v hv=>hv
 | .it _,a,h=>by simp only [pT] at h;subst h;exact .cell rfl rfl fun v hv=>hv
 | .fE,a,h=>by simp only [pT] at h;subst h;exact .cell rfl rfl fun v hv=>hv
 | .nM _,a,h=>by simp only [pT] at h;subst h;exact .cell rfl rfl fun v hv=>hv
theorem tJ (hr:cF X base kU β w) (hf:B5 F σ kU):∀ (ts:List ae) {ck:List ae},kz F σ ts ck→ts.length=ck.length∧∀ k,k<ts.length→vU w (MT X kU β) β (ts.getD k .undef) (ck.getD k .undef)
 | [],ck,h=>by simp only [kz] at h;subst h;exact ⟨rfl,fun k hk=>by simp at hk⟩
 | t :: ts,ck,h=>by
  cases ck with
  | nil=>simp only [kz] at h
  | cons a ck =>
   simp only [kz] at h
   obtain ⟨h1,h2⟩:=tJ hr hf ts h.2
   have h0:=FB hr hf t h.1
   refine ⟨by simp [h1],fun k hk=>?_⟩
   cases k with
   | zero=>exact h0
   | succ k=>exact h2 k (by simpa using hk)
end
def jM:Option bE→Option bE
 | some (.row es fz)=>some (.row es (max fz es.length))
 | some (.map ks vs _)=>some (.map ks vs true)
 | x=>x
def fA (F:Nat→Bool):Nat→ai→ai
 | _,[]=>[]
 | i,b :: r=>(if F i=true then jM b else b) :: fA F (i+1) r
theorem Ea (F:Nat→Bool):∀ (σ:ai) (i b:Nat),(fA F i σ)[b]? = (σ[b]?).map fun x=>if F (i+b)=true then jM x else x
 | [],i,b=>by simp [fA]
 | x :: σ,i,0=>by simp [fA]
 | x :: σ,i,b+1=>by
  simp only [fA,dn,Ea F σ (i+1) b]
  rw [show i+1+b=i+(b+1) by omega]
theorem Ie (F:Nat→Bool):∀ (σ:ai) (i:Nat),(fA F i σ).length = σ.length
 | [],i=>rfl
 | x :: σ,i=>by simp [fA,Ie F σ (i+1)]
theorem UF {x y:bE} (h:jM (some x)=some y):x.xn y:=by
 cases x<;>simp only [jM,aE] at h<;>subst h<;>simp only [bE.xn,true_and,implies_true,and_self]
 exact Nat.le_max_left _ _
theorem Yv (x:bE):∃ y,jM (some x)=some y:=by cases x<;>exact ⟨_,rfl⟩
theorem zL (F:Nat→Bool) (σ:ai):B5 F σ (fA F 0 σ):=by
 refine ⟨⟨Ie F σ 0,fun b x hb=>?_,fun b y hb=>?_⟩,fun b es fz hF hb=>?_,fun b ks vs f hF hb=>?_⟩
 ·rw [Ea,hb]
  simp only [bw,bm]
  split
  ·obtain ⟨y,hy⟩:=Yv x;exact ⟨y,by rw [hy],UF hy⟩
  ·exact ⟨x,rfl,bE.ua x⟩
 ·rw [Ea] at hb
  simp only [aG,bm] at hb
  obtain ⟨o,h1,h2⟩:=hb
  cases o with
  | none=>split at h2<;>simp [jM] at h2
  | some x =>
   refine ⟨x,h1,?_⟩
   split at h2
   ·exact UF h2
   ·cases h2;exact bE.ua _
 ·rw [Ea] at hb
  simp only [aG,bm,hF,if_true] at hb
  obtain ⟨o,h1,h2⟩:=hb
  cases o with
  | none=>simp [jM] at h2
  | some x =>
   cases x<;>simp only [jM,aE,bE.row.injEq,reduceCtorEq] at h2
   obtain ⟨rfl,rfl⟩:=h2
   exact Nat.le_max_right _ _
 ·rw [Ea] at hb
  simp only [aG,bm,hF,if_true] at hb
  obtain ⟨o,h1,h2⟩:=hb
  cases o with
  | none=>simp [jM] at h2
  | some x =>
   cases x<;>simp only [jM,aE,bE.map.injEq,reduceCtorEq] at h2
   exact h2.2.2.symm
def among (bs:List Nat) (b:Nat):Bool:=bs.any (· == b)
theorem jd:∀ (σ:ai) (i:Nat),fA (among []) i σ = σ
 | [],_=>rfl
 | x :: σ,i=>by simp [fA,among,jd σ (i+1)]
theorem bS.BU {g:FuncId} {args:List ae} {r:ae} (h:bS P g args [] (fun r0 σ'=>pT (fun _=>true) σ' r r0)) (hl:r.low 0):aJ P g args r:=by
 refine ⟨?_,hl⟩
 intro X base β w vs h1 h2 h3 fr cs h4
 obtain ⟨r0,σ',β',v,w',q,g1,g2,g3,g4,g5⟩:=h X base β w vs h1 h2 h3 fr cs h4
 have hf:=zL (fun _=>true) σ'
 generalize yB:fA (fun _=>true) 0 σ' = kU at hf
 have BJ:=g1.oq hf.oq
 have qq:=(FB BJ hf r q).1 v (g2.mono (A_ hf.oq) (fun _ _ h=>h))
 have hs:=BJ.drop (σ':=[]) (n:=0) (fun b x hb=>by simp at hb) rfl (fun b x hb=>by simp at hb)
 have qY:=bR.drop (σ':=[]) (n:=0) qq (fun b x hb=>by simp at hb) rfl hl
 exact ⟨r,[],_,v,w',⟨rfl,rfl⟩,hs,qY,g3.drop (σ':=[]) (n:=0) (fun b x hb=>by simp at hb) rfl (Nat.le_refl 0),Nat.zero_le _,g5⟩
theorem aq.bU {g:FuncId} {first captured args args':List ae} {K:ae→ai→Prop} {r:ae} (bs:List Nat) (hc:aJ P g args' r) (hp:kz (among bs) σ args' (first++args++captured)) (hl:bx 0 args')
  (hk:K r (if bL r then σ else fA (among bs) 0 σ)):aq P (.fn g first captured) args σ K:=by
 refine aq.sh ?_
 intro X base β w vs h1 h2 h3 fr cs h4
 have nU:=zL (among bs) σ
 generalize yB:fA (among bs) 0 σ = kU at *
 have hf:=nU.oq
 have xp:=h1.oq hf
 obtain ⟨e1,e2⟩:=tJ xp nU args' hp
 have e3:∀ k,k<args'.length→bR w (MT X kU β) β (vs.getD k undef) (args'.getD k .undef):=fun k eA=>(e2 k eA).1 _ ((h3 k (by omega)).mono (A_ hf) (fun _ _ h=>h))
 have Dv:∀ b,b<0→(fun _=>none:Env) b = β b:=fun b hb=>by omega
 have Mr:∀ g' o,MT X kU β g' o→g'<w.heap.size:=by
  rintro g' o (hx | ⟨b,y,L,m1,m2,rfl,m4⟩)
  ·exact h1.p6 g' o hx
  ·exact Fu xp m1 m2
 have nI:cF (MT X kU β) base [] (fun _=>none) w:=⟨fun _ _=>rfl,fun b y hb=>by simp at hb,fun b b' y y' L L' hb=>by simp at hb,h1.size,Mr,h1.gl⟩
 have xX:∀ (β':Env) (w:World),dg w (MT X kU β) w (MT (MT X kU β) [] β'):=fun β' w=>dg.lM fun g' o h=>by rcases h with h | h;exact h;exact absurd h Ej
 have CT:∀ (β':Env) (w:World),dg w (MT (MT X kU β) [] β') w (MT X kU β):=fun β' w=>dg.lM fun g' o h=>.inl h
 obtain ⟨r',σ',β',v,w',⟨rfl,rfl⟩,g1,g2,g3,g4,g5⟩:=hc.1 (MT X kU β) base (fun _=>none) w vs nI (by omega) (fun k eA =>
  ((e3 k (by omega)).low Dv (iX hl k)).mono (xX _ _) (fun _ _ h=>h)) fr cs h4
 have jg:∀ g',g'<w.heap.size→w'.heap[g']? = w.heap[g']?:=fun g' tq=>g3.block g' tq fun o=>Ej
 have wq:∀ iO,(∀ g' o,iQ iO β g' o→iQ σ β g' o)→Ext σ.length σ β w iO β w':=fun iO h =>
  ⟨g3.os,g3.tape,g3.output,g3.size,fun g' o x Gb _=>by rw [World.cell?_of_block (w:=w) (a:=⟨g',o,none⟩) (jg g' (xI Gb))];exact Gb,fun g' tq _=>jg g' tq,fun g' o hm=>.inl (h g' o hm),fun _ _=>rfl⟩
 by_cases CY:bL r'=true
 ·rw [if_pos CY] at hk
  exact ⟨r',σ,β,v,w',hk,(h1.kept g3.size jg).1,RJ g2 CY,wq σ (fun _ _ h=>h),ah _,g5⟩
 ·rw [if_neg CY] at hk
  refine ⟨r',kU,β,v,w',hk,(xp.kept g3.size jg).1,?_,wq kU (fun _ _ h=>h.oq hf),by rw [hf.len];exact ah _,g5⟩
  exact (g2.mono (CT _ _) (fun _ _ h=>h)).low (fun b hb=>by omega) hc.2
def G0 (r r0:ae) (σ':ai):Prop:=pT (fun _=>true) σ' r r0
theorem aJ.begin {g:FuncId} {fn:Func} {c:Code} {args:List ae} {r:ae} {m:Nat} {rs:List ResultVar} (n:Nat) (hf:P.funcs[g]? = some fn) (hb:fn.body=some c) (hr:fn.results.toList=rs) (hm:fn.ntmps - args.length=m)
  (eE : (fn.name == "runtime.NumGoroutine") = false) (hl : r.low 0)
  (h:dW P ⟨0,none⟩ (qm P rs (G0 r)) n [.code c] .normal (args++List.replicate m .undef) []):aJ P g args r :=
 bS.BU (bS.start n hf hb hr hm eE h) hl
end
end Go.cV
