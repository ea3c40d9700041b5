/- Part 23 of my own framework and of the walks of functions: AbsX. -/
import Derived.Test.YtfjbdamcmiglgaaGreatOwn22
import Derived.Orders
set_option linter.unusedVariables false
set_option linter.unusedSectionVars false
set_option linter.unusedSimpArgs false
namespace Go.c8
open Go
structure Fp where
 nm:Option Nat
 wr:List Nat
 hd:List Nat
def Fp.no:Fp:=⟨none,[],[]⟩
def dv (f:Fp) (σ:ai):ai:=eB (fun b=>!f.hd.contains b) 0 σ
def Fp.name (f:Fp) (σ:ai):Nat:=f.nm.getD σ.length
def eT (wr:List Nat):Nat→ai→ai→Prop
 | _,[],[]=>True
 | i,a :: cj,b :: bs=>(wr.contains i=true∨a=b)∧eT wr (i+1) cj bs
 | _,_,_=>False
def dB (wr:List Nat):Nat→ai→ai→ai
 | i,a :: cj,b :: bs=>(if wr.contains i=true then a else b) :: dB wr (i+1) cj bs
 | _,_,bs=>bs
def kE (P:Program) (op:Op) (tm:List ae) (σ:ai) (nm:Nat) (r:ae) (dg:ai):Prop :=
 match op with
 | .call { callee:=.value f,args, .. }=>aq P (ev tm f) (args.toList.map (ev tm)) σ fun r' σ'=>r'=r∧σ' = dg
 | op=>cY P σ nm (ev tm) op=some (r,dg)
def im (P:Program) (lo:Ctx) (Q:b9→St→Prop) (k:List KI) (ops:Array Oper):List Oper→List Fp→List ae→ai→Prop
 | [],_,tm,σ=>aK P lo Q k .normal ⟨tm,σ⟩
 | o :: l,fs,tm,σ=>∃ g,mc ops tm o=some g∧(g=false→im P lo Q k ops l fs.tail (put tm o.dst gone) σ) ∧
   (g=true→∃ r dg,kE P o.op tm (dv (fs.headD .no) σ) ((fs.headD .no).name σ) r dg∧eT (fs.headD .no).wr 0 dg (dv (fs.headD .no) σ) ∧
    im P lo Q k ops l fs.tail (put tm o.dst r) (dB (fs.headD .no).wr 0 dg σ))
def dx (N:Nat) (σ:ai):ai:=σ++List.replicate (N - σ.length) none
def dq (fs:List Fp) (i:Nat):Fp:=fs.getD i .no
def dstsOf (ops:Array Oper):List (Option Tmp):=ops.toList.map (·.dst)
def yQ (ops:Array Oper) (b:List Nat) (ds:List (Option Tmp)):Bool :=
 (List.range ops.size).all fun i=>match ops[i]? with
  | none=>true
  | some o=>(o.looksAt ops++o.dst.toList).all fun t=>(List.range ops.size).all fun j=>j==i||(ds.getD j none) != some t||yI b i j
def ql (m:Nat) (b:List Nat) (fs:List Fp) (n0 N:Nat):Bool :=
 (List.range m).all fun i=>((dq fs i).wr.all fun c=>decide (c<N) && !(dq fs i).hd.contains c&&(List.range m).all fun j=>j==i || !(dq fs j).wr.contains c||yI b i j) &&
  ((List.range m).all fun j=>j==i||(dq fs j).wr.all fun c=>(dq fs i).hd.contains c||yI b i j) &&
  (match (dq fs i).nm with
  | none=>true
  | some c=>decide (n0≤c)&&decide (c<N)&&(List.range m).all fun j=>j==i||(dq fs j).nm != some c)
def qx (ops:Array Oper) (fs:List Fp) (n0 N:Nat):Bool :=
 jI ops&&yQ ops (tE [] ops.toList) (dstsOf ops)&&(fs.isEmpty||ql ops.size (tE [] ops.toList) fs n0 N)
structure sj (ops:Array Oper) (fs:List Fp) (n0 N:Nat):Prop where
 down:jI ops=true
 tmp:∀ i o,ops[i]? = some o→∀ t,t∈o.looksAt ops∨o.dst=some t→∀ j oj,ops[j]? = some oj→j≠i→oj.dst=some t→j6 ops i j∨j6 ops j i
 own:∀ i,i<ops.size→∀ c∈(dq fs i).wr,c<N∧c ∉ (dq fs i).hd∧∀ j,j<ops.size→j≠i→c∈(dq fs j).wr→j6 ops i j∨j6 ops j i
 see:∀ i,i<ops.size→∀ c,c ∉ (dq fs i).hd→∀ j,j<ops.size→j≠i→c∈(dq fs j).wr→j6 ops i j∨j6 ops j i
 EF:∀ i,i<ops.size→∀ c,(dq fs i).nm=some c→n0≤c∧c<N∧∀ j,j<ops.size→j≠i→(dq fs j).nm≠some c
theorem QB {ops:Array Oper} {fs:List Fp} {n0 N:Nat} (h:qx ops fs n0 N=true):sj ops fs n0 N:=by
 simp only [qx,aD,bY] at h
 obtain ⟨⟨h1,h2⟩,h3⟩:=h
 have wR:fs=[]→∀ i,dq fs i = .no:=fun e i=>by subst e;rfl
 refine ⟨h1,fun i o ho t ht j oj Vl eg hd=>?_,fun i hi c hc=>?_,fun i hi c hc j hj eg hw=>?_,fun i hi c hc=>?_⟩
 ·simp only [yQ,bp,cu] at h2
  have:=h2 i (aL.1 ho).1
  rw [ho] at this
  simp only [bp,cu,bY,beq_iff_eq,bne_iff_ne] at this
  have:=this t (by rcases ht with ht | ht<;>simp [ht]) j (aL.1 Vl).1
  have hds:(dstsOf ops).getD j none=some t:=by simp [dstsOf,List.getD,Vl,hd]
  rcases this with (h4 | h4) | h4
  ·exact absurd h4 eg
  ·exact absurd hds h4
  ·exact J_ h4
 ·rcases h3 with h3 | h3
  ·rw [wR (by simpa using h3)] at hc;simp [Fp.no] at hc
  ·simp only [ql,bp,cu,aD] at h3
   have:=(h3 i hi).1.1 c hc
   simp only [decide_eq_true_eq,bT,bY,beq_iff_eq] at this
   refine ⟨this.1.1,by simpa using this.1.2,fun j hj eg hw=>?_⟩
   rcases this.2 j hj with (h4 | h4) | h4
   ·exact absurd h4 eg
   ·simp [hw] at h4
   ·exact J_ h4
 ·rcases h3 with h3 | h3
  ·rw [wR (by simpa using h3)] at hw;simp [Fp.no] at hw
  ·simp only [ql,bp,cu,aD] at h3
   have:=(h3 i hi).1.2 j hj
   simp only [bY,beq_iff_eq,bp] at this
   rcases this with h4 | h4
   ·exact absurd h4 eg
   ·rcases h4 c hw with h5 | h5
    ·exact absurd (by simpa using h5) hc
    ·exact J_ h5
 ·rcases h3 with h3 | h3
  ·rw [wR (by simpa using h3)] at hc;simp [Fp.no] at hc
  ·simp only [ql,bp,cu,aD] at h3
   have:=(h3 i hi).2
   rw [hc] at this
   simp only [aD,decide_eq_true_eq,bp,cu,bY,beq_iff_eq,bne_iff_ne] at this
   exact ⟨this.1.1,this.1.2,fun j hj eg=>(this.2 j hj).resolve_left eg⟩
theorem zI {wr:List Nat}:∀ {i:Nat} {a b:ai},eT wr i a b→a.length=b.length
 | _,[],[],_=>rfl
 | i,_ :: cj,_ :: bs,h=>by simp [zI h.2]
 | _,[],_ :: _,h=>h.elim
 | _,_ :: _,[],h=>h.elim
theorem Ku {wr:List Nat}:∀ {i:Nat} {a b:ai},eT wr i a b→∀ c,i+c ∉ wr→a[c]? = b[c]?
 | _,[],[],_,_,_=>rfl
 | i,x :: cj,y :: bs,h,0,hc=>by
  have:=h.1.resolve_left (by simpa using hc)
  simp [this]
 | i,x :: cj,y :: bs,h,c+1,hc=>by
  simp only [dk]
  exact Ku h.2 c (by rw [show i+1+c=i+(c+1) by omega];exact hc)
 | _,[],_ :: _,h,_,_=>h.elim
 | _,_ :: _,[],h,_,_=>h.elim
theorem wx {wr:List Nat}:∀ {i:Nat} {a b:ai} (_:a.length=b.length) (c:Nat),(dB wr i a b)[c]? = if i+c∈wr then a[c]? else b[c]?
 | _,[],[],_,c=>by simp [dB]
 | i,x :: cj,y :: bs,h,0=>by by_cases hc:i∈wr<;>simp [dB,hc]
 | i,x :: cj,y :: bs,h,c+1=>by
  simp only [dB,dk]
  rw [wx (by simpa using h) c,show i+1+c=i+(c+1) by omega]
 | _,[],_ :: _,h,_=>by simp at h
 | _,_ :: _,[],h,_=>by simp at h
theorem Hm {wr:List Nat}:∀ {i:Nat} {a b:ai} (_:a.length=b.length),(dB wr i a b).length=b.length
 | _,[],[],_=>rfl
 | i,x :: cj,y :: bs,h=>by simp [dB,Hm (i:=i+1) (a:=cj) (b:=bs) (by simpa using h)]
 | _,[],_ :: _,h=>by simp at h
 | _,_ :: _,[],h=>by simp at h
theorem Wj {f:Fp} {σ dg:ai} (h:eT f.wr 0 dg (dv f σ)) (hd:∀ c∈f.wr,c ∉ f.hd):dB f.wr 0 dg σ=gR (fun b=>!f.hd.contains b) 0 dg σ:=by
 have hl : dg.length = σ.length:=by rw [zI h,dv,rA]
 apply bP
 intro c
 rw [wx hl,DS _ _ _ _ _ (by omega),bm]
 by_cases hc:c∈f.wr
 ·rw [if_pos hc,if_neg (fun q=>hd c hc (by simpa using q.2))]
 ·rw [if_neg hc]
  split
  ·rfl
  ·rename_i hn
   rw [Ku h c (by simpa using hc),dv,vO,bm]
   by_cases bD:c < σ.length
   ·have:(!f.hd.contains c)=true:=by
     cases hq:f.hd.contains c
     ·rfl
     ·exact absurd ⟨bD,by simpa using hq⟩ hn
    rw [this];cases σ[c]?<;>rfl
   ·rw [bq (dN bD)];rfl
theorem H9 {N b:Nat} {σ:ai} {x:bE}:(dx N σ)[b]? = some (some x)↔σ[b]? = some (some x):=by
 simp only [dx,qp]
 split
 ·rfl
 ·rename_i h
  rw [bq (l:=σ) (dN h)]
  simp [c9]
theorem KQ {N:Nat} {σ:ai} (h : σ.length≤N):(dx N σ).length=N:=by simp [dx];omega
theorem Cd {N:Nat} {σ:ai} {β:Env} {g o:Nat}:iO (dx N σ) β g o↔iO σ β g o:=by
 simp only [iO,H9]
theorem Jk {X:Nat→Nat→Prop} {N:Nat} {σ:ai} {β:Env}:MT X (dx N σ) β=MT X σ β:=by
 funext g o;simp only [MT,Cd]
theorem cC.pad {X:Nat→Nat→Prop} {base N:Nat} {σ:ai} {β:Env} {w:World} (h:cC X base σ β w) (hN : σ.length≤N):cC X base (dx N σ) β w :=
 ⟨fun b hb=>h.nA b (by rw [KQ hN] at hb;omega),fun b x hb=>by rw [Jk];exact h.cd b x (H9.1 hb),fun b b' x y L L' h1 h2=>h.inj b b' x y L L' (H9.1 h1) (H9.1 h2),h.size,h.pW,h.gl⟩
end Go.c8
