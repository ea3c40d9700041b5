/- Part 17 of my own framework and of the walks of functions: AbsR. -/
import Derived.Test.YtfjbdamcmiglgaaGreatOwn16
set_option linter.unusedVariables false
set_option linter.unusedSectionVars false
set_option linter.unusedSimpArgs false
namespace Go.c8
open Go
mutual
def pT (F:Nat→Bool) (σ:ai):ae→ae→Prop
 | .ps sz ts,a=>match a with
  | .aU=>ts=[]
  | .ps w5 es=>w5=sz∧kB F σ ts es
  | .os b off n w5=>w5=sz∧F b=true∧match bG σ b with
   | some (.row es _)=>off+n≤es.length∧kB F σ ts ((es.drop off).take n)
   | _=>False
  | _=>False
 | .pm uK sR,a=>match a with
  | .pm ks vs=>kB F σ uK ks∧kB F σ sR vs
  | .map b=>F b=true∧match bG σ b with
   | some (.map ks vs _)=>kB F σ uK ks∧kB F σ sR vs
   | _=>False
  | _=>False
 | .agg mW,a=>match a with
  | .agg cs=>kB F σ mW cs
  | _=>False
 | .dz mW,a=>match a with
  | .dz cs=>kB F σ mW cs
  | _=>False
 | .pp mW,a=>match a with
  | .pp cs=>kB F σ mW cs
  | _=>False
 | .iface t' v',a=>match a with
  | .iface t v=>t'=t∧pT F σ v' v
  | _=>False
 | .fn f' x' y',a=>match a with
  | .fn f x y=>f'=f∧kB F σ x' x∧kB F σ y' y
  | _=>False
 | .undef,a=>cJ a=false
 | t,a=>a=t
def kB (F:Nat→Bool) (σ:ai):List ae→List ae→Prop
 | [],cj=>cj=[]
 | t :: ts,cj=>match cj with
  | []=>False
  | a :: cj=>pT F σ t a∧kB F σ ts cj
end
mutual
theorem vR (F:Nat→Bool) (σ:ai):∀ t:ae,pT F σ t t
 | .ps _ ts=>⟨rfl,cE F σ ts⟩
 | .pm ks vs=>⟨cE F σ ks,cE F σ vs⟩
 | .agg cs=>cE F σ cs
 | .dz cs=>cE F σ cs
 | .pp cs=>cE F σ cs
 | .iface _ v=>⟨rfl,vR F σ v⟩
 | .fn _ x y=>⟨rfl,cE F σ x,cE F σ y⟩
 | .undef=>rfl
 | .bool _=>rfl
 | .int _ _=>rfl
 | .str _=>rfl
 | .bM=>rfl
 | .ptr _ _=>rfl
 | .rp _ _ _=>rfl
 | .aU=>rfl
 | .os _ _ _ _=>rfl
 | .oc _ _ _ _ _=>rfl
 | .gZ=>rfl
 | .az=>rfl
 | .ld _=>rfl
 | .cw=>rfl
 | .map _=>rfl
 | .it _=>rfl
 | .fC=>rfl
 | .nL _=>rfl
theorem cE (F:Nat→Bool) (σ:ai):∀ ts:List ae,kB F σ ts ts
 | []=>rfl
 | t :: ts=>⟨vR F σ t,cE F σ ts⟩
end
def vN (w:World) (M:Nat→Nat→Prop) (β:Env) (t a:ae):Prop :=
 (∀ v,bR w M β v a→bR w M β v t)∧t.cells.length=a.cells.length∧∀ j v,j<t.cells.length→bR w M β v (a.cells.getD j .undef)→bR w M β v (t.cells.getD j .undef)
section
variable {P:Program} {X:Nat→Nat→Prop} {base:Nat} {σ kW:ai} {β:Env} {w:World} {F:Nat→Bool}
theorem vN.cell {M:Nat→Nat→Prop} {t a:ae} (ht:cJ t=false) (ha:cJ a=false) (h:∀ v,bR w M β v a→bR w M β v t):vN w M β t a:=by
 have h1:t.cells=[t]:=by cases t<;>simp_all [ae.cells,cJ]
 have h2:a.cells=[a]:=by cases a<;>simp_all [ae.cells,cJ]
 refine ⟨h,by rw [h1,h2];rfl,fun j v hj hv=>?_⟩
 rw [h1] at hj ⊢;rw [h2] at hv
 obtain rfl:j=0:=by simpa using hj
 exact h v hv
structure BW (F:Nat→Bool) (σ kW:ai):Prop where
 oi:G7 σ kW
 row:∀ (b:Nat) es fz,F b=true→kW[b]? = some (some (.row es fz))→es.length≤fz
 map:∀ (b:Nat) ks vs f,F b=true→kW[b]? = some (some (.map ks vs f))→f=true
mutual
theorem Fm (hr:cC X base kW β w) (hf:BW F σ kW):∀ (t:ae) {a:ae},pT F σ t a→vN w (MT X kW β) β t a
 | .ps sz ts,a,h=>by
  cases a with
  | aU =>
   simp only [pT] at h
   subst h
   refine .cell rfl rfl fun v hv=>?_
   cases hv with
   | aU ad=>exact bR.ps (es:=[]) (fun _ _=>undef) (by simp) (fun i hi=>by simp at hi) (fun i j hi=>by simp at hi) (fun h0=>by simp at h0) (fun i j hi=>by simp at hi)
  | ps w5 es =>
   simp only [pT] at h
   obtain ⟨rfl,h⟩:=h
   obtain ⟨h1,h2⟩:=tv hr hf ts h
   refine .cell rfl rfl fun v hv=>?_
   cases hv with
   | ps cv jd fF hc ha qj =>
    rw [← h1] at jd ⊢
    refine .ps cv jd (fun i hi=>?_) (fun i j hi hj=>hc i j (by omega) hj) (fun h0=>ha (by omega)) (fun i j hi hj=>?_)
    ·rw [(h2 i hi).2.1];exact fF i (by omega)
    ·refine (h2 i hi).2.2 j _ ?_ (qj i j (by omega) hj)
     rw [(h2 i hi).2.1,fF i (by omega)];exact hj
  | os b off n w5 =>
   simp only [pT] at h
   obtain ⟨rfl,L5,h⟩:=h
   split at h
   ·rename_i es fz0 hb
    obtain ⟨hn,h⟩:=h
    obtain ⟨y,nU,zq⟩:=hf.oi.to b _ (jU hb)
    cases y with
    | row rC fz =>
     simp only [bE.xh] at zq
     obtain ⟨rfl,_⟩:=zq
     have El:=hf.row b _ _ L5 nU
     obtain ⟨h1,h2⟩:=tv hr hf ts h
     have hlen:((es.drop off).take n).length=n:=by simp;omega
     have eE:∀ i,i<n→((es.drop off).take n).getD i .undef=es.getD (off+i) .undef:=fun i hi=>by simp [List.getD,hi]
     rw [hlen] at h1
     obtain ⟨L,q1,q1b,NR,c,e,q2,q3,q4,q5,q6⟩:=hr.cd b _ nU
     refine .cell rfl rfl fun v hv=>?_
     have Nu:∃ a cap,v = .slice a n cap∧L.sz=w5∧n≤cap∧(0<n→a=some ⟨L.g,L.o+off*L.sz,none⟩):=by
      cases hv with
      | sd ad hh=>obtain rfl:=aM (hh.symm.trans q1);exact ⟨ad,0,rfl,rfl,by simp,fun h0=>by omega⟩
      | os hh hl hc=>obtain rfl:=aM (hh.symm.trans q1);exact ⟨_,_,rfl,rfl,hl,fun _=>rfl⟩
     obtain ⟨ad,cap,rfl,rfl,jd,U2⟩:=Nu
     rw [← h1]
     refine .ps (fun i j=>c.getD (L.o+(off+i)*L.sz+j) undef) (by omega) (fun i hi=>?_) (fun i j hi hj=>?_) (fun h0=>⟨_,_,U2 (by omega)⟩) (fun i j hi hj=>?_)
     ·rw [(h2 i hi).2.1,eE i (by omega)];exact q5 _ (by omega)
     ·have h7:(off+i+1)*L.sz≤L.n*L.sz:=aX _ (by omega)
      have h8:(off+i+1)*L.sz≤fz*L.sz:=aX _ (by omega)
      rw [bH,dt] at h7 h8
      have e1:L.o+off*L.sz+i*L.sz+j=L.o+(off+i)*L.sz+j:=by rw [bH];omega
      refine ⟨L.g,L.o+off*L.sz,U2 (by omega),?_,?_⟩
      ·rw [e1,cell_of_row w L.g _ c e (0,0) q2,tf (by omega)]
      ·rw [e1]
       rintro (hx | ⟨b2,y2,L2,m1,m2,m3,m4⟩)
       ·exact NR _ hx
       ·obtain rfl:=hr.inj b2 b y2 _ L2 L m1 nU m2 q1 m3
        rw [nU] at m1
        cases m1
        obtain rfl:=aM (m2.symm.trans q1)
        simp only [bE.mut] at m4
        omega
     ·refine (h2 i hi).2.2 j _ ?_ ?_
      ·rw [(h2 i hi).2.1,eE i (by omega),q5 _ (by omega)];exact hj
      ·rw [eE i (by omega)];exact q6 (off+i) j (by omega) hj
    | _=>simp only [bE.xh,reduceCtorEq] at zq
   ·exact h.elim
  | _=>simp only [pT] at h
 | .pm uK sR,a,h=>by
  cases a with
  | pm ks vs =>
   simp only [pT] at h
   obtain ⟨h1,h2⟩:=tv hr hf uK h.1
   obtain ⟨h3,h4⟩:=tv hr hf sR h.2
   refine .cell rfl rfl fun v hv=>?_
   cases hv with
   | pm hg hm hk Nu oq nG qD=>exact .pm hg hm (by omega) (by omega) (fun k er=>(h2 k (by omega)).1 _ (oq k (by omega))) (fun k er=>(h4 k (by omega)).1 _ (nG k (by omega))) qD
  | map b =>
   simp only [pT] at h
   obtain ⟨L5,h⟩:=h
   split at h
   ·rename_i ks vs f0 hb
    obtain ⟨y,nU,zq⟩:=hf.oi.to b _ (jU hb)
    cases y with
    | map ks2 vs2 f =>
     simp only [bE.xh] at zq
     obtain ⟨rfl,rfl,_⟩:=zq
     obtain rfl:=hf.map b _ _ _ L5 nU
     obtain ⟨h1,h2⟩:=tv hr hf uK h.1
     obtain ⟨h3,h4⟩:=tv hr hf sR h.2
     obtain ⟨L,q1,q1b,NR,es,clk,q2,q3,q4,q5,q6,q7⟩:=hr.cd b _ nU
     refine .cell rfl rfl fun v hv=>?_
     cases hv with
     | map hh =>
      obtain rfl:=aM (hh.symm.trans q1)
      refine .pm q2 ?_ (by omega) (by omega) (fun k er=>(h2 k (by omega)).1 _ (q5 k (by omega))) (fun k er=>(h4 k (by omega)).1 _ (q6 k (by omega))) q7
      rintro (hx | ⟨b2,y2,L2,m1,m2,m3,m4⟩)
      ·exact NR _ hx
      ·obtain rfl:=hr.inj b2 b y2 _ L2 _ m1 nU m2 q1 m3
       rw [nU] at m1
       cases m1
       simp [bE.mut] at m4
    | _=>simp only [bE.xh,reduceCtorEq] at zq
   ·exact h.elim
  | _=>simp only [pT] at h
 | .agg mW,a,h=>by
  cases a with
  | agg cs =>
   simp only [pT] at h
   obtain ⟨h1,h2⟩:=tv hr hf mW h
   refine ⟨fun v hv=>?_,h1,fun j v hj hv=>?_⟩
   ·cases hv with
    | agg hn qj=>exact .agg (by omega) fun k hk=>(h2 k (by omega)).1 _ (qj k (by omega))
   ·exact (h2 j hj).1 _ hv
  | _=>simp only [pT] at h
 | .dz mW,a,h=>by
  cases a with
  | dz cs =>
   simp only [pT] at h
   obtain ⟨h1,h2⟩:=tv hr hf mW h
   refine .cell rfl rfl fun v hv=>?_
   cases hv with
   | dz hn qj=>exact .dz (by omega) fun k hk=>(h2 k (by omega)).1 _ (qj k (by omega))
  | _=>simp only [pT] at h
 | .pp mW,a,h=>by
  cases a with
  | pp cs =>
   simp only [pT] at h
   obtain ⟨h1,h2⟩:=tv hr hf mW h
   refine .cell rfl rfl fun v hv=>?_
   cases hv with
   | pp cv hc qj=>exact .pp cv (fun k hk=>hc k (by omega)) fun k hk=>(h2 k hk).1 _ (qj k (by omega))
  | _=>simp only [pT] at h
 | .iface t' v',a,h=>by
  cases a with
  | iface t v2 =>
   simp only [pT] at h
   obtain ⟨rfl,h⟩:=h
   have h1:=Fm hr hf v' h
   refine .cell rfl rfl fun v hv=>?_
   cases hv with
   | iface h2=>exact .iface (h1.1 _ h2)
  | _=>simp only [pT] at h
 | .fn f' x' y',a,h=>by
  cases a with
  | fn f x y =>
   simp only [pT] at h
   obtain ⟨rfl,ha,hb⟩:=h
   obtain ⟨h1,h2⟩:=tv hr hf x' ha
   obtain ⟨h3,h4⟩:=tv hr hf y' hb
   refine .cell rfl rfl fun v hv=>?_
   cases hv with
   | fn e1 e2 r1 r2=>exact .fn (by omega) (by omega) (fun k hk=>(h2 k hk).1 _ (r1 k (by omega))) (fun k hk=>(h4 k hk).1 _ (r2 k (by omega)))
  | _=>simp only [pT] at h
 | .undef,a,h=>.cell rfl h fun v _=>.undef v
 | .bool _,a,h=>by simp only [pT] at h;subst h;exact .cell rfl rfl fun v hv=>hv
 | .int _ _,a,h=>by simp only [pT] at h;subst h;exact .cell rfl rfl fun v hv=>hv
 | .str _,a,h=>by simp only [pT] at h;subst h;exact .cell rfl rfl fun v hv=>hv
 | .bM,a,h=>by simp only [pT] at h;subst h;exact .cell rfl rfl fun v hv=>hv
 | .ptr _ _,a,h=>by simp only [pT] at h;subst h;exact .cell rfl rfl fun v hv=>hv
 | .rp _ _ _,a,h=>by simp only [pT] at h;subst h;exact .cell rfl rfl fun v hv=>hv
 | .aU,a,h=>by simp only [pT] at h;subst h;exact .cell rfl rfl fun v hv=>hv
 | .os _ _ _ _,a,h=>by simp only [pT] at h;subst h;exact .cell rfl rfl fun v hv=>hv
 | .oc _ _ _ _ _,a,h=>by simp only [pT] at h;subst h;exact .cell rfl rfl fun v hv=>hv
 | .gZ,a,h=>by simp only [pT] at h;subst h;exact .cell rfl rfl fun v hv=>hv
 | .az,a,h=>by simp only [pT] at h;subst h;exact .cell rfl rfl fun v hv=>hv
 | .ld _,a,h=>by simp only [pT] at h;subst h;exact .cell rfl rfl fun v hv=>hv
 | .cw,a,h=>by simp only [pT] at h;subst h;exact .cell rfl rfl fun v hv=>hv
 | .map _,a,h=>by simp only [pT] at h;subst h;exact .cell rfl rfl fun v hv=>hv
 | .it _,a,h=>by simp only [pT] at h;subst h;exact .cell rfl rfl fun v hv=>hv
 | .fC,a,h=>by simp only [pT] at h;subst h;exact .cell rfl rfl fun v hv=>hv
 | .nL _,a,h=>by simp only [pT] at h;subst h;exact .cell rfl rfl fun v hv=>hv
theorem tv (hr:cC X base kW β w) (hf:BW F σ kW):∀ (ts:List ae) {cj:List ae},kB F σ ts cj→ts.length=cj.length∧∀ k,k<ts.length→vN w (MT X kW β) β (ts.getD k .undef) (cj.getD k .undef)
 | [],cj,h=>by simp only [kB] at h;subst h;exact ⟨rfl,fun k hk=>by simp at hk⟩
 | t :: ts,cj,h=>by
  cases cj with
  | nil=>simp only [kB] at h
  | cons a cj =>
   simp only [kB] at h
   obtain ⟨h1,h2⟩:=tv hr hf ts h.2
   have h0:=Fm hr hf t h.1
   refine ⟨by simp [h1],fun k hk=>?_⟩
   cases k with
   | zero=>exact h0
   | succ k=>exact h2 k (by simpa using hk)
end
def jM:Option bE→Option bE
 | some (.row es fz)=>some (.row es (max fz es.length))
 | some (.map ks vs _)=>some (.map ks vs true)
 | x=>x
def fM (F:Nat→Bool):Nat→ai→ai
 | _,[]=>[]
 | i,b :: r=>(if F i=true then jM b else b) :: fM F (i+1) r
theorem D5 (F:Nat→Bool):∀ (σ:ai) (i b:Nat),(fM F i σ)[b]? = (σ[b]?).map fun x=>if F (i+b)=true then jM x else x
 | [],i,b=>by simp [fM]
 | x :: σ,i,0=>by simp [fM]
 | x :: σ,i,b+1=>by
  simp only [fM,dk,D5 F σ (i+1) b]
  rw [show i+1+b=i+(b+1) by omega]
theorem HY (F:Nat→Bool):∀ (σ:ai) (i:Nat),(fM F i σ).length = σ.length
 | [],i=>rfl
 | x :: σ,i=>by simp [fM,HY F σ (i+1)]
theorem TX {x y:bE} (h:jM (some x)=some y):x.xh y:=by
 cases x<;>simp only [jM,aG] at h<;>subst h<;>simp only [bE.xh,true_and,implies_true,and_self]
 exact Nat.le_max_left _ _
theorem Yy (x:bE):∃ y,jM (some x)=some y:=by cases x<;>exact ⟨_,rfl⟩
theorem zJ (F:Nat→Bool) (σ:ai):BW F σ (fM F 0 σ):=by
 refine ⟨⟨HY F σ 0,fun b x hb=>?_,fun b y hb=>?_⟩,fun b es fz hF hb=>?_,fun b ks vs f hF hb=>?_⟩
 ·rw [D5,hb]
  simp only [bu,bm]
  split
  ·obtain ⟨y,hy⟩:=Yy x;exact ⟨y,by rw [hy],TX hy⟩
  ·exact ⟨x,rfl,bE.tM x⟩
 ·rw [D5] at hb
  simp only [aH,bm] at hb
  obtain ⟨o,h1,h2⟩:=hb
  cases o with
  | none=>split at h2<;>simp [jM] at h2
  | some x =>
   refine ⟨x,h1,?_⟩
   split at h2
   ·exact TX h2
   ·cases h2;exact bE.tM _
 ·rw [D5] at hb
  simp only [aH,bm,hF,if_true] at hb
  obtain ⟨o,h1,h2⟩:=hb
  cases o with
  | none=>simp [jM] at h2
  | some x =>
   cases x<;>simp only [jM,aG,bE.row.injEq,reduceCtorEq] at h2
   obtain ⟨rfl,rfl⟩:=h2
   exact Nat.le_max_right _ _
 ·rw [D5] at hb
  simp only [aH,bm,hF,if_true] at hb
  obtain ⟨o,h1,h2⟩:=hb
  cases o with
  | none=>simp [jM] at h2
  | some x =>
   cases x<;>simp only [jM,aG,bE.map.injEq,reduceCtorEq] at h2
   exact h2.2.2.symm
def among (bs:List Nat) (b:Nat):Bool:=bs.any (· == b)
theorem jb:∀ (σ:ai) (i:Nat),fM (among []) i σ = σ
 | [],_=>rfl
 | x :: σ,i=>by simp [fM,among,jb σ (i+1)]
theorem bS.BN {g:FuncId} {args:List ae} {r:ae} (h:bS P g args [] (fun r0 σ'=>pT (fun _=>true) σ' r r0)) (hl:r.low 0):aJ P g args r:=by
 refine ⟨?_,hl⟩
 intro X base β w vs h1 h2 h3 fr cs h4
 obtain ⟨r0,σ',β',v,w',q,g1,g2,g3,g4,g5⟩:=h X base β w vs h1 h2 h3 fr cs h4
 have hf:=zJ (fun _=>true) σ'
 generalize yw:fM (fun _=>true) 0 σ' = kW at hf
 have BB:=g1.oi hf.oi
 have qj:=(Fm BB hf r q).1 v (g2.mono (A7 hf.oi) (fun _ _ h=>h))
 have hs:=BB.drop (σ':=[]) (n:=0) (fun b x hb=>by simp at hb) rfl (fun b x hb=>by simp at hb)
 have qN:=bR.drop (σ':=[]) (n:=0) qj (fun b x hb=>by simp at hb) rfl hl
 exact ⟨r,[],_,v,w',⟨rfl,rfl⟩,hs,qN,g3.drop (σ':=[]) (n:=0) (fun b x hb=>by simp at hb) rfl (Nat.le_refl 0),Nat.zero_le _,g5⟩
theorem aq.bU {g:FuncId} {first captured args args':List ae} {K:ae→ai→Prop} {r:ae} (bs:List Nat) (hc:aJ P g args' r) (hp:kB (among bs) σ args' (first++args++captured)) (hl:bx 0 args')
  (hk:K r (if bO r then σ else fM (among bs) 0 σ)):aq P (.fn g first captured) args σ K:=by
 refine aq.sh ?_
 intro X base β w vs h1 h2 h3 fr cs h4
 have nS:=zJ (among bs) σ
 generalize yw:fM (among bs) 0 σ = kW at *
 have hf:=nS.oi
 have xj:=h1.oi hf
 obtain ⟨e1,e2⟩:=tv xj nS args' hp
 have e3:∀ k,k<args'.length→bR w (MT X kW β) β (vs.getD k undef) (args'.getD k .undef):=fun k er=>(e2 k er).1 _ ((h3 k (by omega)).mono (A7 hf) (fun _ _ h=>h))
 have Dj:∀ b,b<0→(fun _=>none:Env) b = β b:=fun b hb=>by omega
 have Mc:∀ g' o,MT X kW β g' o→g'<w.heap.size:=by
  rintro g' o (hx | ⟨b,y,L,m1,m2,rfl,m4⟩)
  ·exact h1.pW g' o hx
  ·exact Ft xj m1 m2
 have nH:cC (MT X kW β) base [] (fun _=>none) w:=⟨fun _ _=>rfl,fun b y hb=>by simp at hb,fun b b' y y' L L' hb=>by simp at hb,h1.size,Mc,h1.gl⟩
 have xR:∀ (β':Env) (w:World),df w (MT X kW β) w (MT (MT X kW β) [] β'):=fun β' w=>df.lP fun g' o h=>by rcases h with h | h;exact h;exact absurd h D9
 have CI:∀ (β':Env) (w:World),df w (MT (MT X kW β) [] β') w (MT X kW β):=fun β' w=>df.lP fun g' o h=>.inl h
 obtain ⟨r',σ',β',v,w',⟨rfl,rfl⟩,g1,g2,g3,g4,g5⟩:=hc.1 (MT X kW β) base (fun _=>none) w vs nH (by omega) (fun k er =>
  ((e3 k (by omega)).low Dj (iW hl k)).mono (xR _ _) (fun _ _ h=>h)) fr cs h4
 have je:∀ g',g'<w.heap.size→w'.heap[g']? = w.heap[g']?:=fun g' sX=>g3.block g' sX fun o=>D9
 have wc:∀ iM,(∀ g' o,iO iM β g' o→iO σ β g' o)→Ext σ.length σ β w iM β w':=fun iM h =>
  ⟨g3.os,g3.tape,g3.output,g3.size,fun g' o x F6 _=>by rw [World.cell?_of_block (w:=w) (a:=⟨g',o,none⟩) (je g' (xC F6))];exact F6,fun g' sX _=>je g' sX,fun g' o hm=>.inl (h g' o hm),fun _ _=>rfl⟩
 by_cases CN:bO r'=true
 ·rw [if_pos CN] at hk
  exact ⟨r',σ,β,v,w',hk,(h1.kept g3.size je).1,Rr g2 CN,wc σ (fun _ _ h=>h),ah _,g5⟩
 ·rw [if_neg CN] at hk
  refine ⟨r',kW,β,v,w',hk,(xj.kept g3.size je).1,?_,wc kW (fun _ _ h=>h.oi hf),by rw [hf.len];exact ah _,g5⟩
  exact (g2.mono (CI _ _) (fun _ _ h=>h)).low (fun b hb=>by omega) hc.2
def GQ (r r0:ae) (σ':ai):Prop:=pT (fun _=>true) σ' r r0
theorem aJ.begin {g:FuncId} {fn:Func} {c:Code} {args:List ae} {r:ae} {m:Nat} {rs:List ResultVar} (n:Nat) (hf:P.funcs[g]? = some fn) (hb:fn.body=some c) (hr:fn.results.toList=rs) (hm:fn.ntmps - args.length=m)
  (eA : (fn.name == "runtime.NumGoroutine") = false) (hl : r.low 0)
  (h:dT P ⟨0,none⟩ (qf P rs (GQ r)) n [.code c] .normal (args++List.replicate m .undef) []):aJ P g args r :=
 bS.BN (bS.start n hf hb hr hm eA h) hl
end
end Go.c8
