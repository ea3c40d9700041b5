/- Part 17 of my own framework and of the walks of functions: AbsR. -/
import Derived.Test.YtpgnahcljlclcaaGreatOwn16
set_option linter.unusedVariables false
set_option linter.unusedSectionVars false
set_option linter.unusedSimpArgs false
namespace Go.Abs
open Go
mutual
def pT (F:Nat→Bool) (σ:Store):AVal→AVal→Prop
 | .ps sz ts,a=>match a with
  | .nils=>ts=[]
  | .ps sz' es=>sz'=sz∧pTL F σ ts es
  | .os b off n sz'=>sz'=sz∧F b=true∧match getS σ b with
   | some (.row es _)=>off+n≤es.length∧pTL F σ ts ((es.drop off).take n)
   | _=>False
  | _=>False
 | .pm ks' vs',a=>match a with
  | .pm ks vs=>pTL F σ ks' ks∧pTL F σ vs' vs
  | .map b=>F b=true∧match getS σ b with
   | some (.map ks vs _)=>pTL F σ ks' ks∧pTL F σ vs' vs
   | _=>False
  | _=>False
 | .agg cs',a=>match a with
  | .agg cs=>pTL F σ cs' cs
  | _=>False
 | .tup cs',a=>match a with
  | .tup cs=>pTL F σ cs' cs
  | _=>False
 | .pp cs',a=>match a with
  | .pp cs=>pTL F σ cs' cs
  | _=>False
 | .iface t' v',a=>match a with
  | .iface t v=>t'=t∧pT F σ v' v
  | _=>False
 | .fn f' x' y',a=>match a with
  | .fn f x y=>f'=f∧pTL F σ x' x∧pTL F σ y' y
  | _=>False
 | .undef,a=>isAggA a=false
 | t,a=>a=t
def pTL (F:Nat→Bool) (σ:Store):List AVal→List AVal→Prop
 | [],as_=>as_=[]
 | t :: ts,as_=>match as_ with
  | []=>False
  | a :: as_=>pT F σ t a∧pTL F σ ts as_
end
mutual
theorem Zdx (F:Nat→Bool) (σ:Store):∀ t:AVal,pT F σ t t
 | .ps _ ts=>⟨rfl,Za1 F σ ts⟩
 | .pm ks vs=>⟨Za1 F σ ks,Za1 F σ vs⟩
 | .agg cs=>Za1 F σ cs
 | .tup cs=>Za1 F σ cs
 | .pp cs=>Za1 F σ cs
 | .iface _ v=>⟨rfl,Zdx F σ v⟩
 | .fn _ x y=>⟨rfl,Za1 F σ x,Za1 F σ y⟩
 | .undef=>rfl
 | .bool _=>rfl
 | .int _ _=>rfl
 | .str _=>rfl
 | .nilptr=>rfl
 | .ptr _ _=>rfl
 | .rp _ _ _=>rfl
 | .nils=>rfl
 | .os _ _ _ _=>rfl
 | .oc _ _ _ _ _=>rfl
 | .anyb=>rfl
 | .nilfn=>rfl
 | .yld _=>rfl
 | .nilmap=>rfl
 | .map _=>rfl
 | .it _=>rfl
 | .nilif=>rfl
 | .opq _=>rfl
theorem Za1 (F:Nat→Bool) (σ:Store):∀ ts:List AVal,pTL F σ ts ts
 | []=>rfl
 | t :: ts=>⟨Zdx F σ t,Za1 F σ ts⟩
end
def GoodT (w:World) (M:Nat→Nat→Prop) (β:Env) (t a:AVal):Prop :=
 (∀ v,Rep w M β v a→Rep w M β v t)∧t.cells.length=a.cells.length∧∀ j v,j<t.cells.length→Rep w M β v (a.cells.getD j .undef)→Rep w M β v (t.cells.getD j .undef)
section
variable {P:Program} {X:Nat→Nat→Prop} {base:Nat} {σ σf:Store} {β:Env} {w:World} {F:Nat→Bool}
theorem GoodT.cell {M:Nat→Nat→Prop} {t a:AVal} (ht:isAggA t=false) (ha:isAggA a=false) (h:∀ v,Rep w M β v a→Rep w M β v t):GoodT w M β t a:=by
 have h1:t.cells=[t]:=by cases t<;>simp_all [AVal.cells,isAggA]
 have h2:a.cells=[a]:=by cases a<;>simp_all [AVal.cells,isAggA]
 refine ⟨h,by rw [h1,h2];rfl,fun j v hj hv=>?_⟩
 rw [h1] at hj ⊢;rw [h2] at hv
 obtain rfl:j=0:=by simpa using hj
 exact h v hv
structure Froz (F:Nat→Bool) (σ σf:Store):Prop where
 frz:Frz σ σf
 row:∀ (b:Nat) es fz,F b=true→σf[b]? = some (some (.row es fz))→es.length≤fz
 map:∀ (b:Nat) ks vs f,F b=true→σf[b]? = some (some (.map ks vs f))→f=true
mutual
theorem Zn1 (hr:RelS X base σf β w) (hf:Froz F σ σf):∀ (t:AVal) {a:AVal},pT F σ t a→GoodT w (MT X σf β) β t a
 | .ps sz ts,a,h=>by
  cases a with
  | nils =>
   simp only [pT] at h
   subst h
   refine .cell rfl rfl fun v hv=>?_
   cases hv with
   | nils ad=>exact Rep.ps (es:=[]) (fun _ _=>undef) (by simp) (fun i hi=>by simp at hi) (fun i j hi=>by simp at hi) (fun h0=>by simp at h0) (fun i j hi=>by simp at hi)
  | ps sz' es =>
   simp only [pT] at h
   obtain ⟨rfl,h⟩:=h
   obtain ⟨h1,h2⟩:=Zbr hr hf ts h
   refine .cell rfl rfl fun v hv=>?_
   cases hv with
   | ps cv hcap hsz hc ha hr' =>
    rw [← h1] at hcap ⊢
    refine .ps cv hcap (fun i hi=>?_) (fun i j hi hj=>hc i j (by omega) hj) (fun h0=>ha (by omega)) (fun i j hi hj=>?_)
    ·rw [(h2 i hi).2.1];exact hsz i (by omega)
    ·refine (h2 i hi).2.2 j _ ?_ (hr' i j (by omega) hj)
     rw [(h2 i hi).2.1,hsz i (by omega)];exact hj
  | os b off n sz' =>
   simp only [pT] at h
   obtain ⟨rfl,hFb,h⟩:=h
   split at h
   ·rename_i es fz0 hb
    obtain ⟨hn,h⟩:=h
    obtain ⟨y,hy1,hy2⟩:=hf.frz.to b _ (Zae hb)
    cases y with
    | row es' fz =>
     simp only [Blk.fle] at hy2
     obtain ⟨rfl,_⟩:=hy2
     have hfz:=hf.row b _ _ hFb hy1
     obtain ⟨h1,h2⟩:=Zbr hr hf ts h
     have hlen:((es.drop off).take n).length=n:=by simp;omega
     have hget:∀ i,i<n→((es.drop off).take n).getD i .undef=es.getD (off+i) .undef:=fun i hi=>by simp [List.getD,hi]
     rw [hlen] at h1
     obtain ⟨L,q1,q1b,q1x,c,e,q2,q3,q4,q5,q6⟩:=hr.blk b _ hy1
     refine .cell rfl rfl fun v hv=>?_
     have hv':∃ a cap,v = .slice a n cap∧L.sz=sz'∧n≤cap∧(0<n→a=some ⟨L.g,L.o+off*L.sz,none⟩):=by
      cases hv with
      | os0 ad hh=>obtain rfl:=Option.some.inj (hh.symm.trans q1);exact ⟨ad,0,rfl,rfl,by simp,fun h0=>by omega⟩
      | os hh hl hc=>obtain rfl:=Option.some.inj (hh.symm.trans q1);exact ⟨_,_,rfl,rfl,hl,fun _=>rfl⟩
     obtain ⟨ad,cap,rfl,rfl,hcap,had⟩:=hv'
     rw [← h1]
     refine .ps (fun i j=>c.getD (L.o+(off+i)*L.sz+j) undef) (by omega) (fun i hi=>?_) (fun i j hi hj=>?_) (fun h0=>⟨_,_,had (by omega)⟩) (fun i j hi hj=>?_)
     ·rw [(h2 i hi).2.1,hget i (by omega)];exact q5 _ (by omega)
     ·have h7:(off+i+1)*L.sz≤L.n*L.sz:=Nat.mul_le_mul_right _ (by omega)
      have h8:(off+i+1)*L.sz≤fz*L.sz:=Nat.mul_le_mul_right _ (by omega)
      rw [Nat.add_mul,Nat.one_mul] at h7 h8
      have e1:L.o+off*L.sz+i*L.sz+j=L.o+(off+i)*L.sz+j:=by rw [Nat.add_mul];omega
      refine ⟨L.g,L.o+off*L.sz,had (by omega),?_,?_⟩
      ·rw [e1,cell_of_row w L.g _ c e (0,0) q2,Zan (by omega)]
      ·rw [e1]
       rintro (hx | ⟨b2,y2,L2,m1,m2,m3,m4⟩)
       ·exact q1x _ hx
       ·obtain rfl:=hr.inj b2 b y2 _ L2 L m1 hy1 m2 q1 m3
        rw [hy1] at m1
        cases m1
        obtain rfl:=Option.some.inj (m2.symm.trans q1)
        simp only [Blk.mut] at m4
        omega
     ·refine (h2 i hi).2.2 j _ ?_ ?_
      ·rw [(h2 i hi).2.1,hget i (by omega),q5 _ (by omega)];exact hj
      ·rw [hget i (by omega)];exact q6 (off+i) j (by omega) hj
    | _=>simp only [Blk.fle,reduceCtorEq] at hy2
   ·exact h.elim
  | _=>simp only [pT] at h
 | .pm ks' vs',a,h=>by
  cases a with
  | pm ks vs =>
   simp only [pT] at h
   obtain ⟨h1,h2⟩:=Zbr hr hf ks' h.1
   obtain ⟨h3,h4⟩:=Zbr hr hf vs' h.2
   refine .cell rfl rfl fun v hv=>?_
   cases hv with
   | pm hg hm hk hv' hr1 hr2 hbo=>exact .pm hg hm (by omega) (by omega) (fun k hk'=>(h2 k (by omega)).1 _ (hr1 k (by omega))) (fun k hk'=>(h4 k (by omega)).1 _ (hr2 k (by omega))) hbo
  | map b =>
   simp only [pT] at h
   obtain ⟨hFb,h⟩:=h
   split at h
   ·rename_i ks vs f0 hb
    obtain ⟨y,hy1,hy2⟩:=hf.frz.to b _ (Zae hb)
    cases y with
    | map ks2 vs2 f =>
     simp only [Blk.fle] at hy2
     obtain ⟨rfl,rfl,_⟩:=hy2
     obtain rfl:=hf.map b _ _ _ hFb hy1
     obtain ⟨h1,h2⟩:=Zbr hr hf ks' h.1
     obtain ⟨h3,h4⟩:=Zbr hr hf vs' h.2
     obtain ⟨L,q1,q1b,q1x,es,clk,q2,q3,q4,q5,q6,q7⟩:=hr.blk b _ hy1
     refine .cell rfl rfl fun v hv=>?_
     cases hv with
     | map hh =>
      obtain rfl:=Option.some.inj (hh.symm.trans q1)
      refine .pm q2 ?_ (by omega) (by omega) (fun k hk'=>(h2 k (by omega)).1 _ (q5 k (by omega))) (fun k hk'=>(h4 k (by omega)).1 _ (q6 k (by omega))) q7
      rintro (hx | ⟨b2,y2,L2,m1,m2,m3,m4⟩)
      ·exact q1x _ hx
      ·obtain rfl:=hr.inj b2 b y2 _ L2 _ m1 hy1 m2 q1 m3
       rw [hy1] at m1
       cases m1
       simp [Blk.mut] at m4
    | _=>simp only [Blk.fle,reduceCtorEq] at hy2
   ·exact h.elim
  | _=>simp only [pT] at h
 | .agg cs',a,h=>by
  cases a with
  | agg cs =>
   simp only [pT] at h
   obtain ⟨h1,h2⟩:=Zbr hr hf cs' h
   refine ⟨fun v hv=>?_,h1,fun j v hj hv=>?_⟩
   ·cases hv with
    | agg hn hr'=>exact .agg (by omega) fun k hk=>(h2 k (by omega)).1 _ (hr' k (by omega))
   ·exact (h2 j hj).1 _ hv
  | _=>simp only [pT] at h
 | .tup cs',a,h=>by
  cases a with
  | tup cs =>
   simp only [pT] at h
   obtain ⟨h1,h2⟩:=Zbr hr hf cs' h
   refine .cell rfl rfl fun v hv=>?_
   cases hv with
   | tup hn hr'=>exact .tup (by omega) fun k hk=>(h2 k (by omega)).1 _ (hr' k (by omega))
  | _=>simp only [pT] at h
 | .pp cs',a,h=>by
  cases a with
  | pp cs =>
   simp only [pT] at h
   obtain ⟨h1,h2⟩:=Zbr hr hf cs' h
   refine .cell rfl rfl fun v hv=>?_
   cases hv with
   | pp cv hc hr'=>exact .pp cv (fun k hk=>hc k (by omega)) fun k hk=>(h2 k hk).1 _ (hr' k (by omega))
  | _=>simp only [pT] at h
 | .iface t' v',a,h=>by
  cases a with
  | iface t v2 =>
   simp only [pT] at h
   obtain ⟨rfl,h⟩:=h
   have h1:=Zn1 hr hf v' h
   refine .cell rfl rfl fun v hv=>?_
   cases hv with
   | iface h2=>exact .iface (h1.1 _ h2)
  | _=>simp only [pT] at h
 | .fn f' x' y',a,h=>by
  cases a with
  | fn f x y =>
   simp only [pT] at h
   obtain ⟨rfl,ha,hb⟩:=h
   obtain ⟨h1,h2⟩:=Zbr hr hf x' ha
   obtain ⟨h3,h4⟩:=Zbr hr hf y' hb
   refine .cell rfl rfl fun v hv=>?_
   cases hv with
   | fn e1 e2 r1 r2=>exact .fn (by omega) (by omega) (fun k hk=>(h2 k hk).1 _ (r1 k (by omega))) (fun k hk=>(h4 k hk).1 _ (r2 k (by omega)))
  | _=>simp only [pT] at h
 | .undef,a,h=>.cell rfl h fun v _=>.undef v
 | .bool _,a,h=>by simp only [pT] at h;subst h;exact .cell rfl rfl fun v hv=>hv
 | .int _ _,a,h=>by simp only [pT] at h;subst h;exact .cell rfl rfl fun v hv=>hv
 | .str _,a,h=>by simp only [pT] at h;subst h;exact .cell rfl rfl fun v hv=>hv
 | .nilptr,a,h=>by simp only [pT] at h;subst h;exact .cell rfl rfl fun v hv=>hv
 | .ptr _ _,a,h=>by simp only [pT] at h;subst h;exact .cell rfl rfl fun v hv=>hv
 | .rp _ _ _,a,h=>by simp only [pT] at h;subst h;exact .cell rfl rfl fun v hv=>hv
 | .nils,a,h=>by simp only [pT] at h;subst h;exact .cell rfl rfl fun v hv=>hv
 | .os _ _ _ _,a,h=>by simp only [pT] at h;subst h;exact .cell rfl rfl fun v hv=>hv
 | .oc _ _ _ _ _,a,h=>by simp only [pT] at h;subst h;exact .cell rfl rfl fun v hv=>hv
 | .anyb,a,h=>by simp only [pT] at h;subst h;exact .cell rfl rfl fun v hv=>hv
 | .nilfn,a,h=>by simp only [pT] at h;subst h;exact .cell rfl rfl fun v hv=>hv
 | .yld _,a,h=>by simp only [pT] at h;subst h;exact .cell rfl rfl fun v hv=>hv
 | .nilmap,a,h=>by simp only [pT] at h;subst h;exact .cell rfl rfl fun v hv=>hv
 | .map _,a,h=>by simp only [pT] at h;subst h;exact .cell rfl rfl fun v hv=>hv
 | .it _,a,h=>by simp only [pT] at h;subst h;exact .cell rfl rfl fun v hv=>hv
 | .nilif,a,h=>by simp only [pT] at h;subst h;exact .cell rfl rfl fun v hv=>hv
 | .opq _,a,h=>by simp only [pT] at h;subst h;exact .cell rfl rfl fun v hv=>hv
theorem Zbr (hr:RelS X base σf β w) (hf:Froz F σ σf):∀ (ts:List AVal) {as_:List AVal},pTL F σ ts as_→ts.length=as_.length∧∀ k,k<ts.length→GoodT w (MT X σf β) β (ts.getD k .undef) (as_.getD k .undef)
 | [],as_,h=>by simp only [pTL] at h;subst h;exact ⟨rfl,fun k hk=>by simp at hk⟩
 | t :: ts,as_,h=>by
  cases as_ with
  | nil=>simp only [pTL] at h
  | cons a as_ =>
   simp only [pTL] at h
   obtain ⟨h1,h2⟩:=Zbr hr hf ts h.2
   have h0:=Zn1 hr hf t h.1
   refine ⟨by simp [h1],fun k hk=>?_⟩
   cases k with
   | zero=>exact h0
   | succ k=>exact h2 k (by simpa using hk)
end
def frzO:Option Blk→Option Blk
 | some (.row es fz)=>some (.row es (max fz es.length))
 | some (.map ks vs _)=>some (.map ks vs true)
 | x=>x
def frzI (F:Nat→Bool):Nat→Store→Store
 | _,[]=>[]
 | i,b :: r=>(if F i=true then frzO b else b) :: frzI F (i+1) r
theorem Zgy (F:Nat→Bool):∀ (σ:Store) (i b:Nat),(frzI F i σ)[b]? = (σ[b]?).map fun x=>if F (i+b)=true then frzO x else x
 | [],i,b=>by simp [frzI]
 | x :: σ,i,0=>by simp [frzI]
 | x :: σ,i,b+1=>by
  simp only [frzI,List.getElem?_cons_succ,Zgy F σ (i+1) b]
  rw [show i+1+b=i+(b+1) by omega]
theorem Zmj (F:Nat→Bool):∀ (σ:Store) (i:Nat),(frzI F i σ).length = σ.length
 | [],i=>rfl
 | x :: σ,i=>by simp [frzI,Zmj F σ (i+1)]
theorem Zuq {x y:Blk} (h:frzO (some x)=some y):x.fle y:=by
 cases x<;>simp only [frzO,Option.some.injEq] at h<;>subst h<;>simp only [Blk.fle,true_and,implies_true,and_self]
 exact Nat.le_max_left _ _
theorem Yca (x:Blk):∃ y,frzO (some x)=some y:=by cases x<;>exact ⟨_,rfl⟩
theorem Zen (F:Nat→Bool) (σ:Store):Froz F σ (frzI F 0 σ):=by
 refine ⟨⟨Zmj F σ 0,fun b x hb=>?_,fun b y hb=>?_⟩,fun b es fz hF hb=>?_,fun b ks vs f hF hb=>?_⟩
 ·rw [Zgy,hb]
  simp only [Option.map_some,Nat.zero_add]
  split
  ·obtain ⟨y,hy⟩:=Yca x;exact ⟨y,by rw [hy],Zuq hy⟩
  ·exact ⟨x,rfl,Blk.fle_refl x⟩
 ·rw [Zgy] at hb
  simp only [Option.map_eq_some_iff,Nat.zero_add] at hb
  obtain ⟨o,h1,h2⟩:=hb
  cases o with
  | none=>split at h2<;>simp [frzO] at h2
  | some x =>
   refine ⟨x,h1,?_⟩
   split at h2
   ·exact Zuq h2
   ·cases h2;exact Blk.fle_refl _
 ·rw [Zgy] at hb
  simp only [Option.map_eq_some_iff,Nat.zero_add,hF,if_true] at hb
  obtain ⟨o,h1,h2⟩:=hb
  cases o with
  | none=>simp [frzO] at h2
  | some x =>
   cases x<;>simp only [frzO,Option.some.injEq,Blk.row.injEq,reduceCtorEq] at h2
   obtain ⟨rfl,rfl⟩:=h2
   exact Nat.le_max_right _ _
 ·rw [Zgy] at hb
  simp only [Option.map_eq_some_iff,Nat.zero_add,hF,if_true] at hb
  obtain ⟨o,h1,h2⟩:=hb
  cases o with
  | none=>simp [frzO] at h2
  | some x =>
   cases x<;>simp only [frzO,Option.some.injEq,Blk.map.injEq,reduceCtorEq] at h2
   exact h2.2.2.symm
def among (bs:List Nat) (b:Nat):Bool:=bs.any (· == b)
theorem Zah:∀ (σ:Store) (i:Nat),frzI (among []) i σ = σ
 | [],_=>rfl
 | x :: σ,i=>by simp [frzI,among,Zah σ (i+1)]
theorem CallSh.pureT {g:FuncId} {args:List AVal} {r:AVal} (h:CallSh P g args [] (fun r0 σ'=>pT (fun _=>true) σ' r r0)) (hl:r.low 0):CallEq P g args r:=by
 refine ⟨?_,hl⟩
 intro X base β w vs h1 h2 h3 fr cs h4
 obtain ⟨r0,σ',β',v,w',q,g1,g2,g3,g4,g5⟩:=h X base β w vs h1 h2 h3 fr cs h4
 have hf:=Zen (fun _=>true) σ'
 generalize hσf:frzI (fun _=>true) 0 σ' = σf at hf
 have hrf:=g1.frz hf.frz
 have hr':=(Zn1 hrf hf r q).1 v (g2.mono (Ze6 hf.frz) (fun _ _ h=>h))
 have hs:=hrf.drop (σ':=[]) (n:=0) (fun b x hb=>by simp at hb) rfl (fun b x hb=>by simp at hb)
 have hrep:=Rep.drop (σ':=[]) (n:=0) hr' (fun b x hb=>by simp at hb) rfl hl
 exact ⟨r,[],_,v,w',⟨rfl,rfl⟩,hs,hrep,g3.drop (σ':=[]) (n:=0) (fun b x hb=>by simp at hb) rfl (Nat.le_refl 0),Nat.zero_le _,g5⟩
theorem VCall.isoT {g:FuncId} {first captured args args':List AVal} {K:AVal→Store→Prop} {r:AVal} (bs:List Nat) (hc:CallEq P g args' r) (hp:pTL (among bs) σ args' (first++args++captured)) (hl:lowL 0 args')
  (hk:K r (if flatR r then σ else frzI (among bs) 0 σ)):VCall P (.fn g first captured) args σ K:=by
 refine VCall.sh ?_
 intro X base β w vs h1 h2 h3 fr cs h4
 have hf':=Zen (among bs) σ
 generalize hσf:frzI (among bs) 0 σ = σf at *
 have hf:=hf'.frz
 have h1f:=h1.frz hf
 obtain ⟨e1,e2⟩:=Zbr h1f hf' args' hp
 have e3:∀ k,k<args'.length→Rep w (MT X σf β) β (vs.getD k undef) (args'.getD k .undef):=fun k hk'=>(e2 k hk').1 _ ((h3 k (by omega)).mono (Ze6 hf) (fun _ _ h=>h))
 have hβ0:∀ b,b<0→(fun _=>none:Env) b = β b:=fun b hb=>by omega
 have hX':∀ g' o,MT X σf β g' o→g'<w.heap.size:=by
  rintro g' o (hx | ⟨b,y,L,m1,m2,rfl,m4⟩)
  ·exact h1.xlt g' o hx
  ·exact Zks h1f m1 m2
 have hs0:RelS (MT X σf β) base [] (fun _=>none) w:=⟨fun _ _=>rfl,fun b y hb=>by simp at hb,fun b b' y y' L L' hb=>by simp at hb,h1.size,hX',h1.gl⟩
 have hanti:∀ (β':Env) (w:World),Keeps w (MT X σf β) w (MT (MT X σf β) [] β'):=fun β' w=>Keeps.anti fun g' o h=>by rcases h with h | h;exact h;exact absurd h Zhz
 have hanti2:∀ (β':Env) (w:World),Keeps w (MT (MT X σf β) [] β') w (MT X σf β):=fun β' w=>Keeps.anti fun g' o h=>.inl h
 obtain ⟨r',σ',β',v,w',⟨rfl,rfl⟩,g1,g2,g3,g4,g5⟩:=hc.1 (MT X σf β) base (fun _=>none) w vs hs0 (by omega) (fun k hk' =>
  ((e3 k (by omega)).low hβ0 (Zaa hl k)).mono (hanti _ _) (fun _ _ h=>h)) fr cs h4
 have hheap:∀ g',g'<w.heap.size→w'.heap[g']? = w.heap[g']?:=fun g' hg'=>g3.block g' hg' fun o=>Zhz
 have mkExt:∀ σ2,(∀ g' o,Mof σ2 β g' o→Mof σ β g' o)→Ext σ.length σ β w σ2 β w':=fun σ2 h =>
  ⟨g3.os,g3.tape,g3.output,g3.size,fun g' o x hcx _=>by rw [World.cell?_of_block (w:=w) (a:=⟨g',o,none⟩) (hheap g' (Zck hcx))];exact hcx,fun g' hg' _=>hheap g' hg',fun g' o hm=>.inl (h g' o hm),fun _ _=>rfl⟩
 by_cases hfl:flatR r'=true
 ·rw [if_pos hfl] at hk
  exact ⟨r',σ,β,v,w',hk,(h1.kept g3.size hheap).1,Znr g2 hfl,mkExt σ (fun _ _ h=>h),Nat.le_refl _,g5⟩
 ·rw [if_neg hfl] at hk
  refine ⟨r',σf,β,v,w',hk,(h1f.kept g3.size hheap).1,?_,mkExt σf (fun _ _ h=>h.frz hf),by rw [hf.len];exact Nat.le_refl _,g5⟩
  exact (g2.mono (hanti2 _ _) (fun _ _ h=>h)).low (fun b hb=>by omega) hc.2
def isT (r r0:AVal) (σ':Store):Prop:=pT (fun _=>true) σ' r r0
theorem CallEq.begin {g:FuncId} {fn:Func} {c:Code} {args:List AVal} {r:AVal} {m:Nat} {rs:List ResultVar} (n:Nat) (hf:P.funcs[g]? = some fn) (hb:fn.body=some c) (hr:fn.results.toList=rs) (hm:fn.ntmps - args.length=m)
  (hname : (fn.name == "runtime.NumGoroutine") = false) (hl : r.low 0)
  (h:vcK P ⟨0,none⟩ (retQ P rs (isT r)) n [.code c] .normal (args++List.replicate m .undef) []):CallEq P g args r :=
 CallSh.pureT (CallSh.start n hf hb hr hm hname h) hl
end
end Go.Abs
