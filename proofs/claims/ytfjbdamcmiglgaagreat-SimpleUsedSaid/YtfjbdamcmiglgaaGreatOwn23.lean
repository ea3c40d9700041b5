/- Part 23 of my own framework and of the walks of functions: AbsX. -/
import Derived.Test.YtfjbdamcmiglgaaGreatOwn22
import Derived.Orders
set_option linter.unusedVariables false
set_option linter.unusedSectionVars false
set_option linter.unusedSimpArgs false
namespace Go.cV
open Go
structure Fp where
 nm:Option Nat
 wr:List Nat
 hd:List Nat
def Fp.no:Fp:=⟨none,[],[]⟩
def dw (f:Fp) (σ:ai):ai:=eF (fun b=>!f.hd.contains b) 0 σ
def Fp.name (f:Fp) (σ:ai):Nat:=f.nm.getD σ.length
def eW (wr:List Nat):Nat→ai→ai→Prop
 | _,[],[]=>True
 | i,a :: ck,b :: bs=>(wr.contains i=true∨a=b)∧eW wr (i+1) ck bs
 | _,_,_=>False
def dD (wr:List Nat):Nat→ai→ai→ai
 | i,a :: ck,b :: bs=>(if wr.contains i=true then a else b) :: dD wr (i+1) ck bs
 | _,_,bs=>bs
def kB (P:Program) (op:Op) (tm:List ae) (σ:ai) (nm:Nat) (r:ae) (dh:ai):Prop :=
 match op with
 | .call { callee:=.value f,args, .. }=>aq P (ev tm f) (args.toList.map (ev tm)) σ fun r' σ'=>r'=r∧σ' = dh
 | op=>cY P σ nm (ev tm) op=some (r,dh)
def iq (P:Program) (lo:Ctx) (Q:cb→St→Prop) (k:List KI) (ops:Array Oper):List Oper→List Fp→List ae→ai→Prop
 | [],_,tm,σ=>aK P lo Q k .normal ⟨tm,σ⟩
 | o :: l,fs,tm,σ=>∃ g,l8 ops tm o=some g∧(g=false→iq P lo Q k ops l fs.tail (put tm o.dst gone) σ) ∧
   (g=true→∃ r dh,kB P o.op tm (dw (fs.headD .no) σ) ((fs.headD .no).name σ) r dh∧eW (fs.headD .no).wr 0 dh (dw (fs.headD .no) σ) ∧
    iq P lo Q k ops l fs.tail (put tm o.dst r) (dD (fs.headD .no).wr 0 dh σ))
def dA (N:Nat) (σ:ai):ai:=σ++List.replicate (N - σ.length) none
def du (fs:List Fp) (i:Nat):Fp:=fs.getD i .no
def dstsOf (ops:Array Oper):List (Option Tmp):=ops.toList.map (·.dst)
def yX (ops:Array Oper) (b:List Nat) (ds:List (Option Tmp)):Bool :=
 (List.range ops.size).all fun i=>match ops[i]? with
  | none=>true
  | some o=>(o.looksAt ops++o.dst.toList).all fun t=>(List.range ops.size).all fun j=>j==i||(ds.getD j none) != some t||yN b i j
def qt (m:Nat) (b:List Nat) (fs:List Fp) (n0 N:Nat):Bool :=
 (List.range m).all fun i=>((du fs i).wr.all fun c=>decide (c<N) && !(du fs i).hd.contains c&&(List.range m).all fun j=>j==i || !(du fs j).wr.contains c||yN b i j) &&
  ((List.range m).all fun j=>j==i||(du fs j).wr.all fun c=>(du fs i).hd.contains c||yN b i j) &&
  (match (du fs i).nm with
  | none=>true
  | some c=>decide (n0≤c)&&decide (c<N)&&(List.range m).all fun j=>j==i||(du fs j).nm != some c)
def qG (ops:Array Oper) (fs:List Fp) (n0 N:Nat):Bool :=
 jI ops&&yX ops (tQ [] ops.toList) (dstsOf ops)&&(fs.isEmpty||qt ops.size (tQ [] ops.toList) fs n0 N)
structure sC (ops:Array Oper) (fs:List Fp) (n0 N:Nat):Prop where
 down:jI ops=true
 tmp:∀ i o,ops[i]? = some o→∀ t,t∈o.looksAt ops∨o.dst=some t→∀ j oj,ops[j]? = some oj→j≠i→oj.dst=some t→j6 ops i j∨j6 ops j i
 own:∀ i,i<ops.size→∀ c∈(du fs i).wr,c<N∧c ∉ (du fs i).hd∧∀ j,j<ops.size→j≠i→c∈(du fs j).wr→j6 ops i j∨j6 ops j i
 see:∀ i,i<ops.size→∀ c,c ∉ (du fs i).hd→∀ j,j<ops.size→j≠i→c∈(du fs j).wr→j6 ops i j∨j6 ops j i
 EN:∀ i,i<ops.size→∀ c,(du fs i).nm=some c→n0≤c∧c<N∧∀ j,j<ops.size→j≠i→(du fs j).nm≠some c
theorem Qr {ops:Array Oper} {fs:List Fp} {n0 N:Nat} (h:qG ops fs n0 N=true):sC ops fs n0 N:=by
 simp only [qG,aD,b9] at h
 obtain ⟨⟨h1,h2⟩,h3⟩:=h
 have wY:fs=[]→∀ i,du fs i = .no:=fun e i=>by subst e;rfl
 refine ⟨h1,fun i o ho t ht j oj VF dX hd=>?_,fun i hi c hc=>?_,fun i hi c hc j hj dX hw=>?_,fun i hi c hc=>?_⟩
 ·simp only [yX,bp,cw] at h2
  have:=h2 i (aL.1 ho).1
  rw [ho] at this
  simp only [bp,cw,b9,beq_iff_eq,bne_iff_ne] at this
  have:=this t (by rcases ht with ht | ht<;>simp [ht]) j (aL.1 VF).1
  have hds:(dstsOf ops).getD j none=some t:=by simp [dstsOf,List.getD,VF,hd]
  rcases this with (h4 | h4) | h4
  ·exact absurd h4 dX
  ·exact absurd hds h4
  ·exact Ki h4
 ·rcases h3 with h3 | h3
  ·rw [wY (by simpa using h3)] at hc;simp [Fp.no] at hc
  ·simp only [qt,bp,cw,aD] at h3
   have:=(h3 i hi).1.1 c hc
   simp only [decide_eq_true_eq,bT,b9,beq_iff_eq] at this
   refine ⟨this.1.1,by simpa using this.1.2,fun j hj dX hw=>?_⟩
   rcases this.2 j hj with (h4 | h4) | h4
   ·exact absurd h4 dX
   ·simp [hw] at h4
   ·exact Ki h4
 ·rcases h3 with h3 | h3
  ·rw [wY (by simpa using h3)] at hw;simp [Fp.no] at hw
  ·simp only [qt,bp,cw,aD] at h3
   have:=(h3 i hi).1.2 j hj
   simp only [b9,beq_iff_eq,bp] at this
   rcases this with h4 | h4
   ·exact absurd h4 dX
   ·rcases h4 c hw with h5 | h5
    ·exact absurd (by simpa using h5) hc
    ·exact Ki h5
 ·rcases h3 with h3 | h3
  ·rw [wY (by simpa using h3)] at hc;simp [Fp.no] at hc
  ·simp only [qt,bp,cw,aD] at h3
   have:=(h3 i hi).2
   rw [hc] at this
   simp only [aD,decide_eq_true_eq,bp,cw,b9,beq_iff_eq,bne_iff_ne] at this
   exact ⟨this.1.1,this.1.2,fun j hj dX=>(this.2 j hj).resolve_left dX⟩
theorem zQ {wr:List Nat}:∀ {i:Nat} {a b:ai},eW wr i a b→a.length=b.length
 | _,[],[],_=>rfl
 | i,_ :: ck,_ :: bs,h=>by simp [zQ h.2]
 | _,[],_ :: _,h=>h.elim
 | _,_ :: _,[],h=>h.elim
theorem KB {wr:List Nat}:∀ {i:Nat} {a b:ai},eW wr i a b→∀ c,i+c ∉ wr→a[c]? = b[c]?
 | _,[],[],_,_,_=>rfl
 | i,x :: ck,y :: bs,h,0,hc=>by
  have:=h.1.resolve_left (by simpa using hc)
  simp [this]
 | i,x :: ck,y :: bs,h,c+1,hc=>by
  simp only [dn]
  exact KB h.2 c (by rw [show i+1+c=i+(c+1) by omega];exact hc)
 | _,[],_ :: _,h,_,_=>h.elim
 | _,_ :: _,[],h,_,_=>h.elim
theorem wE {wr:List Nat}:∀ {i:Nat} {a b:ai} (_:a.length=b.length) (c:Nat),(dD wr i a b)[c]? = if i+c∈wr then a[c]? else b[c]?
 | _,[],[],_,c=>by simp [dD]
 | i,x :: ck,y :: bs,h,0=>by by_cases hc:i∈wr<;>simp [dD,hc]
 | i,x :: ck,y :: bs,h,c+1=>by
  simp only [dD,dn]
  rw [wE (by simpa using h) c,show i+1+c=i+(c+1) by omega]
 | _,[],_ :: _,h,_=>by simp at h
 | _,_ :: _,[],h,_=>by simp at h
theorem Hx {wr:List Nat}:∀ {i:Nat} {a b:ai} (_:a.length=b.length),(dD wr i a b).length=b.length
 | _,[],[],_=>rfl
 | i,x :: ck,y :: bs,h=>by simp [dD,Hx (i:=i+1) (a:=ck) (b:=bs) (by simpa using h)]
 | _,[],_ :: _,h=>by simp at h
 | _,_ :: _,[],h=>by simp at h
theorem Zyn {f:Fp} {σ dh:ai} (h:eW f.wr 0 dh (dw f σ)) (hd:∀ c∈f.wr,c ∉ f.hd):dD f.wr 0 dh σ=gQ (fun b=>!f.hd.contains b) 0 dh σ:=by
 have hl : dh.length = σ.length:=by rw [zQ h,dw,rM]
 apply bO
 intro c
 rw [wE hl,D0 _ _ _ _ _ (by omega),bm]
 by_cases hc:c∈f.wr
 ·rw [if_pos hc,if_neg (fun q=>hd c hc (by simpa using q.2))]
 ·rw [if_neg hc]
  split
  ·rfl
  ·rename_i hn
   rw [KB h c (by simpa using hc),dw,vV,bm]
   by_cases bD:c < σ.length
   ·have:(!f.hd.contains c)=true:=by
     cases hq:f.hd.contains c
     ·rfl
     ·exact absurd ⟨bD,by simpa using hq⟩ hn
    rw [this];cases σ[c]?<;>rfl
   ·rw [bq (dP bD)];rfl
theorem Ic {N b:Nat} {σ:ai} {x:bE}:(dA N σ)[b]? = some (some x)↔σ[b]? = some (some x):=by
 simp only [dA,qy]
 split
 ·rfl
 ·rename_i h
  rw [bq (l:=σ) (dP h)]
  simp [c8]
theorem La {N:Nat} {σ:ai} (h : σ.length≤N):(dA N σ).length=N:=by simp [dA];omega
theorem Cq {N:Nat} {σ:ai} {β:Env} {g o:Nat}:iQ (dA N σ) β g o↔iQ σ β g o:=by
 simp only [iQ,Ic]
theorem Jy {X:Nat→Nat→Prop} {N:Nat} {σ:ai} {β:Env}:MT X (dA N σ) β=MT X σ β:=by
 funext g o;simp only [MT,Cq]
theorem cF.pad {X:Nat→Nat→Prop} {base N:Nat} {σ:ai} {β:Env} {w:World} (h:cF X base σ β w) (hN : σ.length≤N):cF X base (dA N σ) β w :=
 ⟨fun b hb=>h.nC b (by rw [La hN] at hb;omega),fun b x hb=>by rw [Jy];exact h.cf b x (Ic.1 hb),fun b b' x y L L' h1 h2=>h.inj b b' x y L L' (Ic.1 h1) (Ic.1 h2),h.size,h.p6,h.gl⟩
end Go.cV
