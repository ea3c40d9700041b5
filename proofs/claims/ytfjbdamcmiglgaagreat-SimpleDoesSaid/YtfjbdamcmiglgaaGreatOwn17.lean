/- Part 17 of what the claim rests on. -/
import Derived.Test.YtfjbdamcmiglgaaGreatOwn16
set_option linter.all false
namespace Go.dq
open Go
mutual
def pT (F:Nat->Bool) (σ:av):ah->ah->Prop
 | .ps sz ts,a=>match a with
  |.a8=>ts=[]
  |.ps zz es=>zz=sz/\mD F σ ts es
  |.os b off n zz=>zz=sz/\F b=true/\match bW σ b with
   |some (.row es _)=>off+n<=es.length/\mD F σ ts ((es.drop off).take n)
   |_=>False
  |_=>False
 | .pm xp vV,a=>match a with
  |.pm ks vs=>mD F σ xp ks/\mD F σ vV vs
  |.map b=>F b=true/\match bW σ b with
   |some (.map ks vs _)=>mD F σ xp ks/\mD F σ vV vs
   |_=>False
  |_=>False
 |.agg pD,a=>match a with
  |.agg cs=>mD F σ pD cs
  |_=>False
 |.dw pD,a=>match a with
  |.dw cs=>mD F σ pD cs
  |_=>False
 |.pp pD,a=>match a with
  |.pp cs=>mD F σ pD cs
  |_=>False
 |.iface t' v',a=>match a with
  |.iface t v=>t'=t/\pT F σ v' v
  |_=>False
 |.fn f' x' y',a=>match a with
  |.fn f x y=>f'=f/\mD F σ x' x/\mD F σ y' y
  |_=>False
 |.undef,a=>c_ a=false
 |t,a=>a=t
def mD (F:Nat->Bool) (σ:av):List ah->List ah->Prop
 |[],cI=>cI=[]
 |t :: ts,cI=>match cI with
  |[]=>False
  |a :: cI=>pT F σ t a/\mD F σ ts cI
end
mutual
theorem nH (F:Nat->Bool)(σ:av):∀t:ah,pT F σ t t
 |.ps _ ts=>⟨rfl,bL F σ ts⟩
 |.pm ks vs=>⟨bL F σ ks,bL F σ vs⟩
 |.agg cs=>bL F σ cs
 |.dw cs=>bL F σ cs
 |.pp cs=>bL F σ cs
 |.iface _ v=>⟨rfl,nH F σ v⟩
 |.fn _ x y=>⟨rfl,bL F σ x,bL F σ y⟩
 |.undef=>rfl
 |.bool _=>rfl
 |.int _ _=>rfl
 |.str _=>rfl
 |.gJ=>rfl
 |.ptr _ _=>rfl
 |.rp _ _ _=>rfl
 |.a8=>rfl
 |.os _ _ _ _=>rfl
 |.oc _ _ _ _ _=>rfl
 |.jL=>rfl
 |.fU=>rfl
 |.ni _=>rfl
 |.dj=>rfl
 |.map _=>rfl
 |.it _=>rfl
 |.jv=>rfl
 |.qf _=>rfl
theorem bL (F:Nat->Bool)(σ:av):∀ts:List ah,mD F σ ts ts
 |[]=>rfl
 |t :: ts=>⟨nH F σ t,bL F σ ts⟩
end
def yi (w:World)(M:Nat->Nat->Prop)(β:Env)(t a:ah):Prop :=
 (∀v,cn w M β v a->cn w M β v t)/\t.cells.length=a.cells.length/\∀j v,j<t.cells.length->cn w M β v (a.cells.getD j .undef)->cn w M β v (t.cells.getD j .undef)
section
variable {P:Program}{X:Nat->Nat->Prop}{base:Nat}{σ mw:av}{β:Env}{w:World}{F:Nat->Bool}
theorem yi.cell {M:Nat->Nat->Prop}{t a:ah}(ht:c_ t=false)(ha:c_ a=false)(h:∀v,cn w M β v a->cn w M β v t):yi w M β t a:=by
 have h1:t.cells=[t]:=by cases t<;>simp_all [ah.cells,c_]
 have h2:a.cells=[a]:=by cases a<;>simp_all [ah.cells,c_]
 refine⟨h,by rw[h1,h2];rfl,λj v hj hv=>?_⟩;rw[h1]at hj ⊢;rw[h2]at hv;obtain rfl:j=0:=by simpa using hj
 exact h v hv
structure EE (F:Nat->Bool)(σ mw:av):Prop where
 p6:Kl σ mw
 row:∀(b:Nat) es fz,F b=true->mw[b]? = some (some (.row es fz))->es.length<=fz
 map:∀(b:Nat) ks vs f,F b=true->mw[b]? = some (some (.map ks vs f))->f=true
mutual
theorem Ip (hr:c8 X base mw β w) (hf:EE F σ mw):∀(t:ah) {a:ah},pT F σ t a->yi w (MT X mw β) β t a
 | .ps sz ts,a,h=>by
  cases a with
  |a8 =>
   simp only[pT]at h;subst h;refine .cell rfl rfl λv hv=>?_;cases hv with
   |a8 ad=>exact cn.ps (es:=[]) (λ_ _=>undef) (by simp) (λi hi=>by simp at hi) (λi j hi=>by simp at hi) (λh0=>by simp at h0) (λi j hi=>by simp at hi)
  | ps zz es =>
   simp only[pT]at h;obtain⟨rfl,h⟩:=h;obtain⟨h1,h2⟩:=wA hr hf ts h;refine .cell rfl rfl λv hv=>?_;cases hv with
   |ps cv j8 eM hc ha sU =>
    rw[<-h1]at j8 ⊢;refine .ps cv j8 (λi hi=>?_) (λi j hi hj=>hc i j (by omega) hj) (λh0=>ha (by omega)) (λi j hi hj=>?_)
    ·rw[(h2 i hi).2.1];exact eM i (by omega)
    ·refine(h2 i hi).2.2 j _ ?_ (sU i j (by omega) hj);rw[(h2 i hi).2.1,eM i (by omega)];exact hj
  | os b off n zz =>
   simp only[pT]at h;obtain⟨rfl,QH,h⟩:=h;split at h
   ·rename_i es fz0 hb;obtain⟨hn,h⟩:=h;obtain⟨y,pJ,Cf⟩:=hf.p6.to b _ (la hb);cases y with
    | row uB fz =>
     simp only[bS.zL]at Cf;obtain⟨rfl,_⟩:=Cf;have Hl:=hf.row b _ _ QH pJ;obtain⟨h1,h2⟩:=wA hr hf ts h;have hlen:((es.drop off).take n).length=n:=by simp;omega
     have fc:∀i,i<n->((es.drop off).take n).getD i .undef=es.getD (off+i) .undef:=λi hi=>by simp[List.getD,hi]
     rw[hlen]at h1;obtain⟨L,q1,q1b,Sx,c,e,q2,q3,q4,q5,q6⟩:=hr.cG b _ pJ;refine .cell rfl rfl λv hv=>?_;have R7:∃a cap,v=.slice a n cap/\L.sz=zz/\n<=cap/\(0<n->a=some ⟨L.g,L.o+off*L.sz,none⟩):=by
      cases hv with
      |vg ad hh=>obtain rfl:=aS (hh.symm.trans q1);exact⟨ad,0,rfl,rfl,by simp,λh0=>by omega⟩
      |os hh hl hc=>obtain rfl:=aS (hh.symm.trans q1);exact⟨_,_,rfl,rfl,hl,λ_=>rfl⟩
     obtain⟨ad,cap,rfl,rfl,j8,Z7⟩:=R7;rw[<-h1];refine .ps (λi j=>c.getD (L.o+(off+i)*L.sz+j) undef) (by omega) (λi hi=>?_) (λi j hi hj=>?_) (λh0=>⟨_,_,Z7 (by omega)⟩) (λi j hi hj=>?_)
     ·rw[(h2 i hi).2.1,fc i (by omega)];exact q5 _ (by omega)
     ·have h7:(off+i+1)*L.sz<=L.n*L.sz:=aZ _ (by omega);have h8:(off+i+1)*L.sz<=fz*L.sz:=aZ _ (by omega);rw[bY,dX]at h7 h8;have e1:L.o+off*L.sz+i*L.sz+j=L.o+(off+i)*L.sz+j:=by rw[bY];omega
      refine⟨L.g,L.o+off*L.sz,Z7 (by omega),?_,?_⟩
      ·rw[e1,cell_of_row w L.g _ c e (0,0) q2,wm (by omega)]
      ·rw[e1];rintro(hx|⟨b2,y2,L2,m1,m2,m3,m4⟩)
       ·exact Sx _ hx
       ·obtain rfl:=hr.inj b2 b y2 _ L2 L m1 pJ m2 q1 m3;rw[pJ]at m1;cases m1;obtain rfl:=aS (m2.symm.trans q1);simp only[bS.mut]at m4;omega
     ·refine(h2 i hi).2.2 j _ ?_ ?_
      ·rw[(h2 i hi).2.1,fc i (by omega),q5 _ (by omega)];exact hj
      ·rw[fc i (by omega)];exact q6 (off+i) j (by omega) hj
    |_=>simp only[bS.zL,reduceCtorEq]at Cf
   ·exact h.elim
  |_=>simp only[pT]at h
 | .pm xp vV,a,h=>by
  cases a with
  |pm ks vs =>
   simp only[pT]at h;obtain⟨h1,h2⟩:=wA hr hf xp h.1;obtain⟨h3,h4⟩:=wA hr hf vV h.2;refine .cell rfl rfl λv hv=>?_;cases hv with
   |pm hg hm hk R7 qa po tv=>exact .pm hg hm (by omega) (by omega) (λk eZ=>(h2 k (by omega)).1 _ (qa k (by omega))) (λk eZ=>(h4 k (by omega)).1 _ (po k (by omega))) tv
  | map b =>
   simp only[pT]at h;obtain⟨QH,h⟩:=h;split at h
   ·rename_i ks vs f0 hb;obtain⟨y,pJ,Cf⟩:=hf.p6.to b _ (la hb);cases y with
    | map ks2 vs2 f =>
     simp only[bS.zL]at Cf;obtain⟨rfl,rfl,_⟩:=Cf;obtain rfl:=hf.map b _ _ _ QH pJ;obtain⟨h1,h2⟩:=wA hr hf xp h.1;obtain⟨h3,h4⟩:=wA hr hf vV h.2;obtain⟨L,q1,q1b,Sx,es,clk,q2,q3,q4,q5,q6,q7⟩:=hr.cG b _ pJ;refine .cell rfl rfl λv hv=>?_;cases hv with
     |map hh =>
      obtain rfl:=aS (hh.symm.trans q1);refine .pm q2 ?_ (by omega) (by omega) (λk eZ=>(h2 k (by omega)).1 _ (q5 k (by omega))) (λk eZ=>(h4 k (by omega)).1 _ (q6 k (by omega))) q7;rintro(hx|⟨b2,y2,L2,m1,m2,m3,m4⟩)
      ·exact Sx _ hx
      ·obtain rfl:=hr.inj b2 b y2 _ L2 _ m1 pJ m2 q1 m3;rw[pJ]at m1;cases m1;simp[bS.mut]at m4
    |_=>simp only[bS.zL,reduceCtorEq]at Cf
   ·exact h.elim
  |_=>simp only[pT]at h
 | .agg pD,a,h=>by
  cases a with
  | agg cs =>
   simp only[pT]at h;obtain⟨h1,h2⟩:=wA hr hf pD h;refine⟨λv hv=>?_,h1,λj v hj hv=>?_⟩
   ·cases hv with
    |agg hn sU=>exact .agg (by omega) λk hk=>(h2 k (by omega)).1 _ (sU k (by omega))
   ·exact(h2 j hj).1 _ hv
  |_=>simp only[pT]at h
 | .dw pD,a,h=>by
  cases a with
  |dw cs =>
   simp only[pT]at h;obtain⟨h1,h2⟩:=wA hr hf pD h;refine .cell rfl rfl λv hv=>?_;cases hv with
   |dw hn sU=>exact .dw (by omega) λk hk=>(h2 k (by omega)).1 _ (sU k (by omega))
  |_=>simp only[pT]at h
 | .pp pD,a,h=>by
  cases a with
  |pp cs =>
   simp only[pT]at h;obtain⟨h1,h2⟩:=wA hr hf pD h;refine .cell rfl rfl λv hv=>?_;cases hv with
   |pp cv hc sU=>exact .pp cv (λk hk=>hc k (by omega)) λk hk=>(h2 k hk).1 _ (sU k (by omega))
  |_=>simp only[pT]at h
 | .iface t' v',a,h=>by
  cases a with
  |iface t v2 =>
   simp only[pT]at h;obtain⟨rfl,h⟩:=h;have h1:=Ip hr hf v' h;refine .cell rfl rfl λv hv=>?_;cases hv with
   |iface h2=>exact .iface (h1.1 _ h2)
  |_=>simp only[pT]at h
 | .fn f' x' y',a,h=>by
  cases a with
  |fn f x y =>
   simp only[pT]at h;obtain⟨rfl,ha,hb⟩:=h;obtain⟨h1,h2⟩:=wA hr hf x' ha;obtain⟨h3,h4⟩:=wA hr hf y' hb;refine .cell rfl rfl λv hv=>?_;cases hv with
   |fn e1 e2 r1 r2=>exact .fn (by omega) (by omega) (λk hk=>(h2 k hk).1 _ (r1 k (by omega))) (λk hk=>(h4 k hk).1 _ (r2 k (by omega)))
  |_=>simp only[pT]at h
 |.undef,a,h=>.cell rfl h λv _=>.undef v
 |.bool _,a,h=>by simp only[pT]at h;subst h;exact .cell rfl rfl λv hv=>hv
 |.int _ _,a,h=>by simp only[pT]at h;subst h;exact .cell rfl rfl λv hv=>hv
 |.str _,a,h=>by simp only[pT]at h;subst h;exact .cell rfl rfl λv hv=>hv
 |.gJ,a,h=>by simp only[pT]at h;subst h;exact .cell rfl rfl λv hv=>hv
 |.ptr _ _,a,h=>by simp only[pT]at h;subst h;exact .cell rfl rfl λv hv=>hv
 |.rp _ _ _,a,h=>by simp only[pT]at h;subst h;exact .cell rfl rfl λv hv=>hv
 |.a8,a,h=>by simp only[pT]at h;subst h;exact .cell rfl rfl λv hv=>hv
 |.os _ _ _ _,a,h=>by simp only[pT]at h;subst h;exact .cell rfl rfl λv hv=>hv
 |.oc _ _ _ _ _,a,h=>by simp only[pT]at h;subst h;exact .cell rfl rfl λv hv=>hv
 |.jL,a,h=>by simp only[pT]at h;subst h;exact .cell rfl rfl λv hv=>hv
 |.fU,a,h=>by simp only[pT]at h;subst h;exact .cell rfl rfl λv hv=>hv
 |.ni _,a,h=>by simp only[pT]at h;subst h;exact .cell rfl rfl λv hv=>hv
 |.dj,a,h=>by simp only[pT]at h;subst h;exact .cell rfl rfl λv hv=>hv
 |.map _,a,h=>by simp only[pT]at h;subst h;exact .cell rfl rfl λv hv=>hv
 |.it _,a,h=>by simp only[pT]at h;subst h;exact .cell rfl rfl λv hv=>hv
 |.jv,a,h=>by simp only[pT]at h;subst h;exact .cell rfl rfl λv hv=>hv
 |.qf _,a,h=>by simp only[pT]at h;subst h;exact .cell rfl rfl λv hv=>hv
theorem wA (hr:c8 X base mw β w) (hf:EE F σ mw):∀(ts:List ah) {cI:List ah},mD F σ ts cI->ts.length=cI.length/\∀k,k<ts.length->yi w (MT X mw β) β (ts.getD k .undef) (cI.getD k .undef)
 |[],cI,h=>by simp only[mD]at h;subst h;exact⟨rfl,λk hk=>by simp at hk⟩
 | t :: ts,cI,h=>by
  cases cI with
  |nil=>simp only[mD]at h
  |cons a cI =>
   simp only[mD]at h;obtain⟨h1,h2⟩:=wA hr hf ts h.2;have h0:=Ip hr hf t h.1;refine⟨by simp[h1],λk hk=>?_⟩;cases k with
   |zero=>exact h0
   |succ k=>exact h2 k (by simpa using hk)
end
def iW:Option bS->Option bS
 |some (.row es fz)=>some (.row es (max fz es.length))
 |some (.map ks vs _)=>some (.map ks vs true)
 |x=>x
def fw (F:Nat->Bool):Nat->av->av
 |_,[]=>[]
 |i,b :: r=>(if F i=true then iW b else b):: fw F (i+1) r
theorem GZ (F:Nat->Bool):∀(σ:av) (i b:Nat),(fw F i σ)[b]? = (σ[b]?).map λx=>if F (i+b)=true then iW x else x
 |[],i,b=>by simp[fw]
 |x :: σ,i,0=>by simp[fw]
 |x :: σ,i,b+1=>by
  simp only[fw,dS,GZ F σ (i+1) b];rw[show i+1+b=i+(b+1) by omega]
theorem H9 (F:Nat->Bool):∀(σ:av) (i:Nat),(fw F i σ).length = σ.length
 |[],i=>rfl
 |x :: σ,i=>by simp[fw,H9 F σ (i+1)]
theorem Tk {x y:bS}(h:iW (some x)=some y):x.zL y:=by
 cases x<;>simp only[iW,aM]at h<;>subst h<;>simp only[bS.zL,true_and,implies_true,and_self];exact Nat.le_max_left _ _
theorem Ykg (x:bS):∃y,iW (some x)=some y:=by cases x<;>exact⟨_,rfl⟩
theorem Cs (F:Nat->Bool) (σ:av):EE F σ (fw F 0 σ):=by
 refine⟨⟨H9 F σ 0,λb x hb=>?_,λb y hb=>?_⟩,λb es fz hF hb=>?_,λb ks vs f hF hb=>?_⟩
 ·rw[GZ,hb];simp only[bD,br];split
  ·obtain⟨y,hy⟩:=Ykg x;exact⟨y,by rw[hy],Tk hy⟩
  ·exact⟨x,rfl,bS.wJ x⟩
 ·rw [GZ]at hb;simp only[aP,br]at hb;obtain⟨o,h1,h2⟩:=hb;cases o with
  |none=>split at h2<;>simp[iW]at h2
  |some x =>
   refine⟨x,h1,?_⟩;split at h2
   ·exact Tk h2
   ·cases h2;exact bS.wJ _
 ·rw [GZ]at hb;simp only[aP,br,hF,if_true]at hb;obtain⟨o,h1,h2⟩:=hb;cases o with
  |none=>simp[iW]at h2
  |some x =>
   cases x<;>simp only[iW,aM,bS.row.injEq,reduceCtorEq]at h2;obtain⟨rfl,rfl⟩:=h2;exact Nat.le_max_right _ _
 ·rw [GZ]at hb;simp only[aP,br,hF,if_true]at hb;obtain⟨o,h1,h2⟩:=hb;cases o with
  |none=>simp[iW]at h2
  |some x =>
   cases x<;>simp only[iW,aM,bS.map.injEq,reduceCtorEq]at h2;exact h2.2.2.symm
def among (bs:List Nat)(b:Nat):Bool:=bs.any (· == b)
theorem eW:∀(σ:av) (i:Nat),fw (among []) i σ = σ
 |[],_=>rfl
 |x :: σ,i=>by simp[fw,among,eW σ (i+1)]
theorem cj.Ew {g:FuncId}{args:List ah}{r:ah}(h:cj P g args [] (λr0 σ'=>pT (λ_=>true) σ' r r0))(hl:r.low 0):az P g args r:=by
 refine⟨?_,hl⟩;intro X base β w vs h1 h2 h3 fr cs h4;obtain⟨r0,σ',β',v,w',q,g1,g2,g3,g4,g5⟩:=h X base β w vs h1 h2 h3 fr cs h4;have hf:=Cs (λ_=>true) σ';generalize Bh:fw (λ_=>true) 0 σ' = mw at hf;have En:=g1.p6 hf.p6;have sU:=(Ip En hf r q).1 v (g2.mono (DL hf.p6) (λ_ _ h=>h));have hs:=En.drop (σ':=[]) (n:=0) (λb x hb=>by simp at hb) rfl (λb x hb=>by simp at hb);have tK:=cn.drop (σ':=[]) (n:=0) sU (λb x hb=>by simp at hb) rfl hl;exact⟨r,[],_,v,w',⟨rfl,rfl⟩,hs,tK,g3.drop (σ':=[]) (n:=0) (λb x hb=>by simp at hb) rfl (Nat.le_refl 0),Nat.zero_le _,g5⟩
theorem ak.bm {g:FuncId} {first captured args args':List ah} {K:ah->av->Prop} {r:ah} (bs:List Nat) (hc:az P g args' r) (hp:mD (among bs) σ args' (first++args++captured)) (hl:bG 0 args')
  (hk:K r (if bj r then σ else fw (among bs) 0 σ)):ak P (.fn g first captured) args σ K:=by
 refine ak.sh ?_;intro X base β w vs h1 h2 h3 fr cs h4;have pG:=Cs (among bs) σ;generalize Bh:fw (among bs) 0 σ = mw at *
 have hf:=pG.p6;have zN:=h1.p6 hf;obtain⟨e1,e2⟩:=wA zN pG args' hp;have e3:∀k,k<args'.length->cn w (MT X mw β) β (vs.getD k undef) (args'.getD k .undef):=λk eZ=>(e2 k eZ).1 _ ((h3 k (by omega)).mono (DL hf) (λ_ _ h=>h));have F6:∀b,b<0->(λ_=>none:Env) b = β b:=λb hb=>by omega
 have QO:∀g' o,MT X mw β g' o->g'<w.heap.size:=by
  rintro g' o (hx|⟨b,y,L,m1,m2,rfl,m4⟩)
  ·exact h1.sc g' o hx
  ·exact Ix zN m1 m2
 have lJ:c8 (MT X mw β) base [] (λ_=>none) w:=⟨λ_ _=>rfl,λb y hb=>by simp at hb,λb b' y y' L L' hb=>by simp at hb,h1.size,QO,h1.gl⟩;have AF:∀(β':Env) (w:World),dK w (MT X mw β) w (MT (MT X mw β) [] β'):=λβ' w=>dK.nr λg' o h=>by rcases h with h|h;exact h;exact absurd h G_
 have Fq:∀(β':Env) (w:World),dK w (MT (MT X mw β) [] β') w (MT X mw β):=λβ' w=>dK.nr λg' o h=>.inl h;obtain⟨r',σ',β',v,w',⟨rfl,rfl⟩,g1,g2,g3,g4,g5⟩:=hc.1 (MT X mw β) base (λ_=>none) w vs lJ (by omega) (λk eZ =>
  ((e3 k (by omega)).low F6 (jZ hl k)).mono (AF _ _) (λ_ _ h=>h)) fr cs h4
 have j9:∀g',g'<w.heap.size->w'.heap[g']? = w.heap[g']?:=λg' wa=>g3.block g' wa λo=>G_;have yI:∀jO,(∀g' o,jR jO β g' o->jR σ β g' o)->Ext σ.length σ β w jO β w':=λjO h =>
  ⟨g3.os,g3.tape,g3.output,g3.size,λg' o x Je _=>by rw[World.cell?_of_block (w:=w) (a:=⟨g',o,none⟩) (j9 g' (Ae Je))];exact Je,λg' wa _=>j9 g' wa,λg' o hm=>.inl (h g' o hm),λ_ _=>rfl⟩
 by_cases uV:bj r'=true
 ·rw[if_pos uV]at hk;exact⟨r',σ,β,v,w',hk,(h1.kept g3.size j9).1,Yy g2 uV,yI σ (λ_ _ h=>h),ae _,g5⟩
 ·rw[if_neg uV]at hk;refine⟨r',mw,β,v,w',hk,(zN.kept g3.size j9).1,?_,yI mw (λ_ _ h=>h.p6 hf),by rw[hf.len];exact ae _,g5⟩;exact(g2.mono (Fq _ _) (λ_ _ h=>h)).low (λb hb=>by omega) hc.2
def J4 (r r0:ah)(σ':av):Prop:=pT (λ_=>true) σ' r r0
theorem az.begin {g:FuncId} {fn:Func} {c:Code} {args:List ah} {r:ah} {m:Nat} {rs:List ResultVar} (n:Nat) (hf:P.funcs[g]? = some fn) (hb:fn.body=some c) (hr:fn.results.toList=rs) (hm:fn.ntmps-args.length=m)
  (fe : (fn.name == "runtime.NumGoroutine") = false) (hl : r.low 0)
  (h:fx P ⟨0,none⟩ (rL P rs (J4 r)) n [.code c] .normal (args++List.replicate m .undef) []):az P g args r :=
 cj.Ew (cj.start n hf hb hr hm fe h) hl
end
end Go.dq
