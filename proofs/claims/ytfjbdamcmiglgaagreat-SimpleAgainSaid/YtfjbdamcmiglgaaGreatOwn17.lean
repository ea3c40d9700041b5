/- Part 17 of my own framework and of the walks of functions: AbsR. -/
import Derived.Test.YtfjbdamcmiglgaaGreatOwn16
set_option linter.unusedVariables false
set_option linter.unusedSectionVars false
set_option linter.unusedSimpArgs false
namespace Go.c8
open Go
mutual
def pT (F:Nat→Bool) (σ:ai):ae→ae→Prop
 | .ps sz ts,a=>match a with
  | .aU=>ts=[]
  | .ps xm es=>xm=sz∧kO F σ ts es
  | .os b off n xm=>xm=sz∧F b=true∧match bH σ b with
   | some (.row es _)=>off+n≤es.length∧kO F σ ts ((es.drop off).take n)
   | _=>False
  | _=>False
 | .pm u_ tx,a=>match a with
  | .pm ks vs=>kO F σ u_ ks∧kO F σ tx vs
  | .map b=>F b=true∧match bH σ b with
   | some (.map ks vs _)=>kO F σ u_ ks∧kO F σ tx vs
   | _=>False
  | _=>False
 | .agg ni,a=>match a with
  | .agg cs=>kO F σ ni cs
  | _=>False
 | .dA ni,a=>match a with
  | .dA cs=>kO F σ ni cs
  | _=>False
 | .pp ni,a=>match a with
  | .pp cs=>kO F σ ni cs
  | _=>False
 | .iface t' v',a=>match a with
  | .iface t v=>t'=t∧pT F σ v' v
  | _=>False
 | .fn f' x' y',a=>match a with
  | .fn f x y=>f'=f∧kO F σ x' x∧kO F σ y' y
  | _=>False
 | .undef,a=>cN a=false
 | t,a=>a=t
def kO (F:Nat→Bool) (σ:ai):List ae→List ae→Prop
 | [],cm=>cm=[]
 | t :: ts,cm=>match cm with
  | []=>False
  | a :: cm=>pT F σ t a∧kO F σ ts cm
end
mutual
theorem wm (F:Nat→Bool) (σ:ai):∀ t:ae,pT F σ t t
 | .ps _ ts=>⟨rfl,cJ F σ ts⟩
 | .pm ks vs=>⟨cJ F σ ks,cJ F σ vs⟩
 | .agg cs=>cJ F σ cs
 | .dA cs=>cJ F σ cs
 | .pp cs=>cJ F σ cs
 | .iface _ v=>⟨rfl,wm F σ v⟩
 | .fn _ x y=>⟨rfl,cJ F σ x,cJ F σ y⟩
 | .undef=>rfl
 | .bool _=>rfl
 | .int _ _=>rfl
 | .str _=>rfl
 | .bN=>rfl
 | .ptr _ _=>rfl
 | .rp _ _ _=>rfl
 | .aU=>rfl
 | .os _ _ _ _=>rfl
 | .oc _ _ _ _ _=>rfl
 | .ig=>rfl
 | .az=>rfl
 | .lz _=>rfl
 | .cC=>rfl
 | .map _=>rfl
 | .it _=>rfl
 | .fR=>rfl
 | .nX _=>rfl
theorem cJ (F:Nat→Bool) (σ:ai):∀ ts:List ae,kO F σ ts ts
 | []=>rfl
 | t :: ts=>⟨wm F σ t,cJ F σ ts⟩
end
def wi (w:World) (M:Nat→Nat→Prop) (β:Env) (t a:ae):Prop :=
 (∀ v,bS w M β v a→bS w M β v t)∧t.cells.length=a.cells.length∧∀ j v,j<t.cells.length→bS w M β v (a.cells.getD j .undef)→bS w M β v (t.cells.getD j .undef)
section
variable {P:Program} {X:Nat→Nat→Prop} {base:Nat} {σ ll:ai} {β:Env} {w:World} {F:Nat→Bool}
theorem wi.cell {M:Nat→Nat→Prop} {t a:ae} (ht:cN t=false) (ha:cN a=false) (h:∀ v,bS w M β v a→bS w M β v t):wi w M β t a:=by
 have h1:t.cells=[t]:=by cases t<;>simp_all [ae.cells,cN]
 have h2:a.cells=[a]:=by cases a<;>simp_all [ae.cells,cN]
 refine ⟨h,by rw [h1,h2];rfl,fun j v hj hv=>?_⟩
 rw [h1] at hj ⊢;rw [h2] at hv
 obtain rfl:j=0:=by simpa using hj
 exact h v hv
structure Cc (F:Nat→Bool) (σ ll:ai):Prop where
 oH:HA σ ll
 row:∀ (b:Nat) es fz,F b=true→ll[b]? = some (some (.row es fz))→es.length≤fz
 map:∀ (b:Nat) ks vs f,F b=true→ll[b]? = some (some (.map ks vs f))→f=true
mutual
theorem FP (hr:cH X base ll β w) (hf:Cc F σ ll):∀ (t:ae) {a:ae},pT F σ t a→wi w (MT X ll β) β t a
 | .ps sz ts,a,h=>by
  cases a with
  | aU =>
   simp only [pT] at h
   subst h
   refine .cell rfl rfl fun v hv=>?_
   cases hv with
   | aU ad=>exact bS.ps (es:=[]) (fun _ _=>undef) (by simp) (fun i hi=>by simp at hi) (fun i j hi=>by simp at hi) (fun h0=>by simp at h0) (fun i j hi=>by simp at hi)
  | ps xm es =>
   simp only [pT] at h
   obtain ⟨rfl,h⟩:=h
   obtain ⟨h1,h2⟩:=tU hr hf ts h
   refine .cell rfl rfl fun v hv=>?_
   cases hv with
   | ps cv jr fH hc ha qA =>
    rw [← h1] at jr ⊢
    refine .ps cv jr (fun i hi=>?_) (fun i j hi hj=>hc i j (by omega) hj) (fun h0=>ha (by omega)) (fun i j hi hj=>?_)
    ·rw [(h2 i hi).2.1];exact fH i (by omega)
    ·refine (h2 i hi).2.2 j _ ?_ (qA i j (by omega) hj)
     rw [(h2 i hi).2.1,fH i (by omega)];exact hj
  | os b off n xm =>
   simp only [pT] at h
   obtain ⟨rfl,MJ,h⟩:=h
   split at h
   ·rename_i es fz0 hb
    obtain ⟨hn,h⟩:=h
    obtain ⟨y,og,zJ⟩:=hf.oH.to b _ (j_ hb)
    cases y with
    | row rY fz =>
     simp only [bE.xA] at zJ
     obtain ⟨rfl,_⟩:=zJ
     have EJ:=hf.row b _ _ MJ og
     obtain ⟨h1,h2⟩:=tU hr hf ts h
     have hlen:((es.drop off).take n).length=n:=by simp;omega
     have eL:∀ i,i<n→((es.drop off).take n).getD i .undef=es.getD (off+i) .undef:=fun i hi=>by simp [List.getD,hi]
     rw [hlen] at h1
     obtain ⟨L,q1,q1b,Oy,c,e,q2,q3,q4,q5,q6⟩:=hr.cg b _ og
     refine .cell rfl rfl fun v hv=>?_
     have N9:∃ a cap,v = .slice a n cap∧L.sz=xm∧n≤cap∧(0<n→a=some ⟨L.g,L.o+off*L.sz,none⟩):=by
      cases hv with
      | sJ ad hh=>obtain rfl:=aN (hh.symm.trans q1);exact ⟨ad,0,rfl,rfl,by simp,fun h0=>by omega⟩
      | os hh hl hc=>obtain rfl:=aN (hh.symm.trans q1);exact ⟨_,_,rfl,rfl,hl,fun _=>rfl⟩
     obtain ⟨ad,cap,rfl,rfl,jr,Wn⟩:=N9
     rw [← h1]
     refine .ps (fun i j=>c.getD (L.o+(off+i)*L.sz+j) undef) (by omega) (fun i hi=>?_) (fun i j hi hj=>?_) (fun h0=>⟨_,_,Wn (by omega)⟩) (fun i j hi hj=>?_)
     ·rw [(h2 i hi).2.1,eL i (by omega)];exact q5 _ (by omega)
     ·have h7:(off+i+1)*L.sz≤L.n*L.sz:=aX _ (by omega)
      have h8:(off+i+1)*L.sz≤fz*L.sz:=aX _ (by omega)
      rw [bI,dx] at h7 h8
      have e1:L.o+off*L.sz+i*L.sz+j=L.o+(off+i)*L.sz+j:=by rw [bI];omega
      refine ⟨L.g,L.o+off*L.sz,Wn (by omega),?_,?_⟩
      ·rw [e1,cell_of_row w L.g _ c e (0,0) q2,tM (by omega)]
      ·rw [e1]
       rintro (hx | ⟨b2,y2,L2,m1,m2,m3,m4⟩)
       ·exact Oy _ hx
       ·obtain rfl:=hr.inj b2 b y2 _ L2 L m1 og m2 q1 m3
        rw [og] at m1
        cases m1
        obtain rfl:=aN (m2.symm.trans q1)
        simp only [bE.mut] at m4
        omega
     ·refine (h2 i hi).2.2 j _ ?_ ?_
      ·rw [(h2 i hi).2.1,eL i (by omega),q5 _ (by omega)];exact hj
      ·rw [eL i (by omega)];exact q6 (off+i) j (by omega) hj
    | _=>simp only [bE.xA,reduceCtorEq] at zJ
   ·exact h.elim
  | _=>simp only [pT] at h
 | .pm u_ tx,a,h=>by
  cases a with
  | pm ks vs =>
   simp only [pT] at h
   obtain ⟨h1,h2⟩:=tU hr hf u_ h.1
   obtain ⟨h3,h4⟩:=tU hr hf tx h.2
   refine .cell rfl rfl fun v hv=>?_
   cases hv with
   | pm hg hm hk N9 oJ nS qV=>exact .pm hg hm (by omega) (by omega) (fun k eE=>(h2 k (by omega)).1 _ (oJ k (by omega))) (fun k eE=>(h4 k (by omega)).1 _ (nS k (by omega))) qV
  | map b =>
   simp only [pT] at h
   obtain ⟨MJ,h⟩:=h
   split at h
   ·rename_i ks vs f0 hb
    obtain ⟨y,og,zJ⟩:=hf.oH.to b _ (j_ hb)
    cases y with
    | map ks2 vs2 f =>
     simp only [bE.xA] at zJ
     obtain ⟨rfl,rfl,_⟩:=zJ
     obtain rfl:=hf.map b _ _ _ MJ og
     obtain ⟨h1,h2⟩:=tU hr hf u_ h.1
     obtain ⟨h3,h4⟩:=tU hr hf tx h.2
     obtain ⟨L,q1,q1b,Oy,es,clk,q2,q3,q4,q5,q6,q7⟩:=hr.cg b _ og
     refine .cell rfl rfl fun v hv=>?_
     cases hv with
     | map hh =>
      obtain rfl:=aN (hh.symm.trans q1)
      refine .pm q2 ?_ (by omega) (by omega) (fun k eE=>(h2 k (by omega)).1 _ (q5 k (by omega))) (fun k eE=>(h4 k (by omega)).1 _ (q6 k (by omega))) q7
      rintro (hx | ⟨b2,y2,L2,m1,m2,m3,m4⟩)
      ·exact Oy _ hx
      ·obtain rfl:=hr.inj b2 b y2 _ L2 _ m1 og m2 q1 m3
       rw [og] at m1
       cases m1
       simp [bE.mut] at m4
    | _=>simp only [bE.xA,reduceCtorEq] at zJ
   ·exact h.elim
  | _=>simp only [pT] at h
 | .agg ni,a,h=>by
  cases a with
  | agg cs =>
   simp only [pT] at h
   obtain ⟨h1,h2⟩:=tU hr hf ni h
   refine ⟨fun v hv=>?_,h1,fun j v hj hv=>?_⟩
   ·cases hv with
    | agg hn qA=>exact .agg (by omega) fun k hk=>(h2 k (by omega)).1 _ (qA k (by omega))
   ·exact (h2 j hj).1 _ hv
  | _=>simp only [pT] at h
 | .dA ni,a,h=>by
  cases a with
  | dA cs =>
   simp only [pT] at h
   obtain ⟨h1,h2⟩:=tU hr hf ni h
   refine .cell rfl rfl fun v hv=>?_
   cases hv with
   | dA hn qA=>exact .dA (by omega) fun k hk=>(h2 k (by omega)).1 _ (qA k (by omega))
  | _=>simp only [pT] at h
 | .pp ni,a,h=>by
  cases a with
  | pp cs =>
   simp only [pT] at h
   obtain ⟨h1,h2⟩:=tU hr hf ni h
   refine .cell rfl rfl fun v hv=>?_
   cases hv with
   | pp cv hc qA=>exact .pp cv (fun k hk=>hc k (by omega)) fun k hk=>(h2 k hk).1 _ (qA k (by omega))
  | _=>simp only [pT] at h
 | .iface t' v',a,h=>by
  cases a with
  | iface t v2 =>
   simp only [pT] at h
   obtain ⟨rfl,h⟩:=h
   have h1:=FP hr hf v' h
   refine .cell rfl rfl fun v hv=>?_
   cases hv with
   | iface h2=>exact .iface (h1.1 _ h2)
  | _=>simp only [pT] at h
 | .fn f' x' y',a,h=>by
  cases a with
  | fn f x y =>
   simp only [pT] at h
   obtain ⟨rfl,ha,hb⟩:=h
   obtain ⟨h1,h2⟩:=tU hr hf x' ha
   obtain ⟨h3,h4⟩:=tU hr hf y' hb
   refine .cell rfl rfl fun v hv=>?_
   cases hv with
   | fn e1 e2 r1 r2=>exact .fn (by omega) (by omega) (fun k hk=>(h2 k hk).1 _ (r1 k (by omega))) (fun k hk=>(h4 k hk).1 _ (r2 k (by omega)))
  | _=>simp only [pT] at h
 | .undef,a,h=>.cell rfl h fun v _=>.undef v
 | .bool _,a,h=>by simp only [pT] at h;subst h;exact .cell rfl rfl fun v hv=>hv
 | .int _ _,a,h=>by simp only [pT] at h;subst h;exact .cell rfl rfl fun v hv=>hv
 | .str _,a,h=>by simp only [pT] at h;subst h;exact .cell rfl rfl fun v hv=>hv
 | .bN,a,h=>by simp only [pT] at h;subst h;exact .cell rfl rfl fun v hv=>hv
 | .ptr _ _,a,h=>by simp only [pT] at h;subst h;exact .cell rfl rfl fun v hv=>hv
 | .rp _ _ _,a,h=>by simp only [pT] at h;subst h;exact .cell rfl rfl fun v hv=>hv
 | .aU,a,h=>by simp only [pT] at h;subst h;exact .cell rfl rfl fun v hv=>hv
 | .os _ _ _ _,a,h=>by simp only [pT] at h;subst h;exact .cell rfl rfl fun v hv=>hv
 | .oc _ _ _ _ _,a,h=>by simp only [pT] at h;subst h;exact .cell rfl rfl fun v hv=>hv
 | .ig,a,h=>by simp only [pT] at h;subst h;exact .cell rfl rfl fun v hv=>hv
 | .az,a,h=>by simp only [pT] at h;subst h;exact .cell rfl rfl fun v hv=>hv
 | .lz _,a,h=>by simp only [pT] at h;subst h;exact .cell rfl rfl fun v hv=>hv
 | .cC,a,h=>by simp only [pT] at h;subst h;exact .cell rfl rfl fun v hv=>hv
 | .map _,a,h=>by simp only [pT] at h;subst h;exact .cell rfl rfl fun v hv=>hv
 | .it _,a,h=>by simp only [pT] at h;subst h;exact .cell rfl rfl fun v hv=>hv
 | .fR,a,h=>by simp only [pT] at h;subst h;exact .cell rfl rfl fun v hv=>hv
 | .nX _,a,h=>by simp only [pT] at h;subst h;exact .cell rfl rfl fun v hv=>hv
theorem tU (hr:cH X base ll β w) (hf:Cc F σ ll):∀ (ts:List ae) {cm:List ae},kO F σ ts cm→ts.length=cm.length∧∀ k,k<ts.length→wi w (MT X ll β) β (ts.getD k .undef) (cm.getD k .undef)
 | [],cm,h=>by simp only [kO] at h;subst h;exact ⟨rfl,fun k hk=>by simp at hk⟩
 | t :: ts,cm,h=>by
  cases cm with
  | nil=>simp only [kO] at h
  | cons a cm =>
   simp only [kO] at h
   obtain ⟨h1,h2⟩:=tU hr hf ts h.2
   have h0:=FP hr hf t h.1
   refine ⟨by simp [h1],fun k hk=>?_⟩
   cases k with
   | zero=>exact h0
   | succ k=>exact h2 k (by simpa using hk)
end
def j0:Option bE→Option bE
 | some (.row es fz)=>some (.row es (max fz es.length))
 | some (.map ks vs _)=>some (.map ks vs true)
 | x=>x
def fZ (F:Nat→Bool):Nat→ai→ai
 | _,[]=>[]
 | i,b :: r=>(if F i=true then j0 b else b) :: fZ F (i+1) r
theorem En (F:Nat→Bool):∀ (σ:ai) (i b:Nat),(fZ F i σ)[b]? = (σ[b]?).map fun x=>if F (i+b)=true then j0 x else x
 | [],i,b=>by simp [fZ]
 | x :: σ,i,0=>by simp [fZ]
 | x :: σ,i,b+1=>by
  simp only [fZ,dq,En F σ (i+1) b]
  rw [show i+1+b=i+(b+1) by omega]
theorem IE (F:Nat→Bool):∀ (σ:ai) (i:Nat),(fZ F i σ).length = σ.length
 | [],i=>rfl
 | x :: σ,i=>by simp [fZ,IE F σ (i+1)]
theorem Uu {x y:bE} (h:j0 (some x)=some y):x.xA y:=by
 cases x<;>simp only [j0,aG] at h<;>subst h<;>simp only [bE.xA,true_and,implies_true,and_self]
 exact Nat.le_max_left _ _
theorem Yi6 (x:bE):∃ y,j0 (some x)=some y:=by cases x<;>exact ⟨_,rfl⟩
theorem zX (F:Nat→Bool) (σ:ai):Cc F σ (fZ F 0 σ):=by
 refine ⟨⟨IE F σ 0,fun b x hb=>?_,fun b y hb=>?_⟩,fun b es fz hF hb=>?_,fun b ks vs f hF hb=>?_⟩
 ·rw [En,hb]
  simp only [bu,bp]
  split
  ·obtain ⟨y,hy⟩:=Yi6 x;exact ⟨y,by rw [hy],Uu hy⟩
  ·exact ⟨x,rfl,bE.uq x⟩
 ·rw [En] at hb
  simp only [aH,bp] at hb
  obtain ⟨o,h1,h2⟩:=hb
  cases o with
  | none=>split at h2<;>simp [j0] at h2
  | some x =>
   refine ⟨x,h1,?_⟩
   split at h2
   ·exact Uu h2
   ·cases h2;exact bE.uq _
 ·rw [En] at hb
  simp only [aH,bp,hF,if_true] at hb
  obtain ⟨o,h1,h2⟩:=hb
  cases o with
  | none=>simp [j0] at h2
  | some x =>
   cases x<;>simp only [j0,aG,bE.row.injEq,reduceCtorEq] at h2
   obtain ⟨rfl,rfl⟩:=h2
   exact Nat.le_max_right _ _
 ·rw [En] at hb
  simp only [aH,bp,hF,if_true] at hb
  obtain ⟨o,h1,h2⟩:=hb
  cases o with
  | none=>simp [j0] at h2
  | some x =>
   cases x<;>simp only [j0,aG,bE.map.injEq,reduceCtorEq] at h2
   exact h2.2.2.symm
def among (bs:List Nat) (b:Nat):Bool:=bs.any (· == b)
theorem jj:∀ (σ:ai) (i:Nat),fZ (among []) i σ = σ
 | [],_=>rfl
 | x :: σ,i=>by simp [fZ,among,jj σ (i+1)]
theorem bT.B4 {g:FuncId} {args:List ae} {r:ae} (h:bT P g args [] (fun r0 σ'=>pT (fun _=>true) σ' r r0)) (hl:r.low 0):aJ P g args r:=by
 refine ⟨?_,hl⟩
 intro X base β w vs h1 h2 h3 fr cs h4
 obtain ⟨r0,σ',β',v,w',q,g1,g2,g3,g4,g5⟩:=h X base β w vs h1 h2 h3 fr cs h4
 have hf:=zX (fun _=>true) σ'
 generalize yN:fZ (fun _=>true) 0 σ' = ll at hf
 have BU:=g1.oH hf.oH
 have qA:=(FP BU hf r q).1 v (g2.mono (Bo hf.oH) (fun _ _ h=>h))
 have hs:=BU.drop (σ':=[]) (n:=0) (fun b x hb=>by simp at hb) rfl (fun b x hb=>by simp at hb)
 have rj:=bS.drop (σ':=[]) (n:=0) qA (fun b x hb=>by simp at hb) rfl hl
 exact ⟨r,[],_,v,w',⟨rfl,rfl⟩,hs,rj,g3.drop (σ':=[]) (n:=0) (fun b x hb=>by simp at hb) rfl (Nat.le_refl 0),Nat.zero_le _,g5⟩
theorem aq.bV {g:FuncId} {first captured args args':List ae} {K:ae→ai→Prop} {r:ae} (bs:List Nat) (hc:aJ P g args' r) (hp:kO (among bs) σ args' (first++args++captured)) (hl:bz 0 args')
  (hk:K r (if bP r then σ else fZ (among bs) 0 σ)):aq P (.fn g first captured) args σ K:=by
 refine aq.sh ?_
 intro X base β w vs h1 h2 h3 fr cs h4
 have od:=zX (among bs) σ
 generalize yN:fZ (among bs) 0 σ = ll at *
 have hf:=od.oH
 have xC:=h1.oH hf
 obtain ⟨e1,e2⟩:=tU xC od args' hp
 have e3:∀ k,k<args'.length→bS w (MT X ll β) β (vs.getD k undef) (args'.getD k .undef):=fun k eE=>(e2 k eE).1 _ ((h3 k (by omega)).mono (Bo hf) (fun _ _ h=>h))
 have DK:∀ b,b<0→(fun _=>none:Env) b = β b:=fun b hb=>by omega
 have MR:∀ g' o,MT X ll β g' o→g'<w.heap.size:=by
  rintro g' o (hx | ⟨b,y,L,m1,m2,rfl,m4⟩)
  ·exact h1.qd g' o hx
  ·exact FZ xC m1 m2
 have nT:cH (MT X ll β) base [] (fun _=>none) w:=⟨fun _ _=>rfl,fun b y hb=>by simp at hb,fun b b' y y' L L' hb=>by simp at hb,h1.size,MR,h1.gl⟩
 have yi:∀ (β':Env) (w:World),di w (MT X ll β) w (MT (MT X ll β) [] β'):=fun β' w=>di.l5 fun g' o h=>by rcases h with h | h;exact h;exact absurd h Ew
 have C2:∀ (β':Env) (w:World),di w (MT (MT X ll β) [] β') w (MT X ll β):=fun β' w=>di.l5 fun g' o h=>.inl h
 obtain ⟨r',σ',β',v,w',⟨rfl,rfl⟩,g1,g2,g3,g4,g5⟩:=hc.1 (MT X ll β) base (fun _=>none) w vs nT (by omega) (fun k eE =>
  ((e3 k (by omega)).low DK (ji hl k)).mono (yi _ _) (fun _ _ h=>h)) fr cs h4
 have jt:∀ g',g'<w.heap.size→w'.heap[g']? = w.heap[g']?:=fun g' tD=>g3.block g' tD fun o=>Ew
 have wG:∀ iZ,(∀ g' o,ja iZ β g' o→ja σ β g' o)→Ext σ.length σ β w iZ β w':=fun iZ h =>
  ⟨g3.os,g3.tape,g3.output,g3.size,fun g' o x Gz _=>by rw [World.cell?_of_block (w:=w) (a:=⟨g',o,none⟩) (jt g' (xT Gz))];exact Gz,fun g' tD _=>jt g' tD,fun g' o hm=>.inl (h g' o hm),fun _ _=>rfl⟩
 by_cases C8:bP r'=true
 ·rw [if_pos C8] at hk
  exact ⟨r',σ,β,v,w',hk,(h1.kept g3.size jt).1,S0 g2 C8,wG σ (fun _ _ h=>h),ah _,g5⟩
 ·rw [if_neg C8] at hk
  refine ⟨r',ll,β,v,w',hk,(xC.kept g3.size jt).1,?_,wG ll (fun _ _ h=>h.oH hf),by rw [hf.len];exact ah _,g5⟩
  exact (g2.mono (C2 _ _) (fun _ _ h=>h)).low (fun b hb=>by omega) hc.2
def Hl (r r0:ae) (σ':ai):Prop:=pT (fun _=>true) σ' r r0
theorem aJ.begin {g:FuncId} {fn:Func} {c:Code} {args:List ae} {r:ae} {m:Nat} {rs:List ResultVar} (n:Nat) (hf:P.funcs[g]? = some fn) (hb:fn.body=some c) (hr:fn.results.toList=rs) (hm:fn.ntmps - args.length=m)
  (eI : (fn.name == "runtime.NumGoroutine") = false) (hl : r.low 0)
  (h:dZ P ⟨0,none⟩ (qv P rs (Hl r)) n [.code c] .normal (args++List.replicate m .undef) []):aJ P g args r :=
 bT.B4 (bT.start n hf hb hr hm eI h) hl
end
end Go.c8
