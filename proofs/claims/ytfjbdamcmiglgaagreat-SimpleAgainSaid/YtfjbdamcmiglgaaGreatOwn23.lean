/- Part 23 of my own framework and of the walks of functions: AbsX. -/
import Derived.Test.YtfjbdamcmiglgaaGreatOwn22
import Derived.Orders
set_option linter.unusedVariables false
set_option linter.unusedSectionVars false
set_option linter.unusedSimpArgs false
namespace Go.c8
open Go
structure Fp where
 nm:Option Nat
 wr:List Nat
 hd:List Nat
def Fp.no:Fp:=⟨none,[],[]⟩
def dy (f:Fp) (σ:ai):ai:=eJ (fun b=>!f.hd.contains b) 0 σ
def Fp.name (f:Fp) (σ:ai):Nat:=f.nm.getD σ.length
def e7 (wr:List Nat):Nat→ai→ai→Prop
 | _,[],[]=>True
 | i,a :: cm,b :: bs=>(wr.contains i=true∨a=b)∧e7 wr (i+1) cm bs
 | _,_,_=>False
def dG (wr:List Nat):Nat→ai→ai→ai
 | i,a :: cm,b :: bs=>(if wr.contains i=true then a else b) :: dG wr (i+1) cm bs
 | _,_,bs=>bs
def kR (P:Program) (op:Op) (tm:List ae) (σ:ai) (nm:Nat) (r:ae) (dk:ai):Prop :=
 match op with
 | .call { callee:=.value f,args, .. }=>aq P (ev tm f) (args.toList.map (ev tm)) σ fun r' σ'=>r'=r∧σ' = dk
 | op=>c9 P σ nm (ev tm) op=some (r,dk)
def iD (P:Program) (lo:Ctx) (Q:cb→St→Prop) (k:List KI) (ops:Array Oper):List Oper→List Fp→List ae→ai→Prop
 | [],_,tm,σ=>aK P lo Q k .normal ⟨tm,σ⟩
 | o :: l,fs,tm,σ=>∃ g,my ops tm o=some g∧(g=false→iD P lo Q k ops l fs.tail (put tm o.dst gone) σ) ∧
   (g=true→∃ r dk,kR P o.op tm (dy (fs.headD .no) σ) ((fs.headD .no).name σ) r dk∧e7 (fs.headD .no).wr 0 dk (dy (fs.headD .no) σ) ∧
    iD P lo Q k ops l fs.tail (put tm o.dst r) (dG (fs.headD .no).wr 0 dk σ))
def dC (N:Nat) (σ:ai):ai:=σ++List.replicate (N - σ.length) none
def dw (fs:List Fp) (i:Nat):Fp:=fs.getD i .no
def dstsOf (ops:Array Oper):List (Option Tmp):=ops.toList.map (·.dst)
def y9 (ops:Array Oper) (b:List Nat) (ds:List (Option Tmp)):Bool :=
 (List.range ops.size).all fun i=>match ops[i]? with
  | none=>true
  | some o=>(o.looksAt ops++o.dst.toList).all fun t=>(List.range ops.size).all fun j=>j==i||(ds.getD j none) != some t||yZ b i j
def qD (m:Nat) (b:List Nat) (fs:List Fp) (n0 N:Nat):Bool :=
 (List.range m).all fun i=>((dw fs i).wr.all fun c=>decide (c<N) && !(dw fs i).hd.contains c&&(List.range m).all fun j=>j==i || !(dw fs j).wr.contains c||yZ b i j) &&
  ((List.range m).all fun j=>j==i||(dw fs j).wr.all fun c=>(dw fs i).hd.contains c||yZ b i j) &&
  (match (dw fs i).nm with
  | none=>true
  | some c=>decide (n0≤c)&&decide (c<N)&&(List.range m).all fun j=>j==i||(dw fs j).nm != some c)
def qQ (ops:Array Oper) (fs:List Fp) (n0 N:Nat):Bool :=
 jW ops&&y9 ops (uf [] ops.toList) (dstsOf ops)&&(fs.isEmpty||qD ops.size (uf [] ops.toList) fs n0 N)
structure sM (ops:Array Oper) (fs:List Fp) (n0 N:Nat):Prop where
 down:jW ops=true
 tmp:∀ i o,ops[i]? = some o→∀ t,t∈o.looksAt ops∨o.dst=some t→∀ j oj,ops[j]? = some oj→j≠i→oj.dst=some t→km ops i j∨km ops j i
 own:∀ i,i<ops.size→∀ c∈(dw fs i).wr,c<N∧c ∉ (dw fs i).hd∧∀ j,j<ops.size→j≠i→c∈(dw fs j).wr→km ops i j∨km ops j i
 see:∀ i,i<ops.size→∀ c,c ∉ (dw fs i).hd→∀ j,j<ops.size→j≠i→c∈(dw fs j).wr→km ops i j∨km ops j i
 E3:∀ i,i<ops.size→∀ c,(dw fs i).nm=some c→n0≤c∧c<N∧∀ j,j<ops.size→j≠i→(dw fs j).nm≠some c
theorem RJ {ops:Array Oper} {fs:List Fp} {n0 N:Nat} (h:qQ ops fs n0 N=true):sM ops fs n0 N:=by
 simp only [qQ,aC,b9] at h
 obtain ⟨⟨h1,h2⟩,h3⟩:=h
 have xc:fs=[]→∀ i,dw fs i = .no:=fun e i=>by subst e;rfl
 refine ⟨h1,fun i o ho t ht j oj WL ep hd=>?_,fun i hi c hc=>?_,fun i hi c hc j hj ep hw=>?_,fun i hi c hc=>?_⟩
 ·simp only [y9,bj,cA] at h2
  have:=h2 i (aL.1 ho).1
  rw [ho] at this
  simp only [bj,cA,b9,beq_iff_eq,bne_iff_ne] at this
  have:=this t (by rcases ht with ht | ht<;>simp [ht]) j (aL.1 WL).1
  have hds:(dstsOf ops).getD j none=some t:=by simp [dstsOf,List.getD,WL,hd]
  rcases this with (h4 | h4) | h4
  ·exact absurd h4 ep
  ·exact absurd hds h4
  ·exact K1 h4
 ·rcases h3 with h3 | h3
  ·rw [xc (by simpa using h3)] at hc;simp [Fp.no] at hc
  ·simp only [qD,bj,cA,aC] at h3
   have:=(h3 i hi).1.1 c hc
   simp only [decide_eq_true_eq,bU,b9,beq_iff_eq] at this
   refine ⟨this.1.1,by simpa using this.1.2,fun j hj ep hw=>?_⟩
   rcases this.2 j hj with (h4 | h4) | h4
   ·exact absurd h4 ep
   ·simp [hw] at h4
   ·exact K1 h4
 ·rcases h3 with h3 | h3
  ·rw [xc (by simpa using h3)] at hw;simp [Fp.no] at hw
  ·simp only [qD,bj,cA,aC] at h3
   have:=(h3 i hi).1.2 j hj
   simp only [b9,beq_iff_eq,bj] at this
   rcases this with h4 | h4
   ·exact absurd h4 ep
   ·rcases h4 c hw with h5 | h5
    ·exact absurd (by simpa using h5) hc
    ·exact K1 h5
 ·rcases h3 with h3 | h3
  ·rw [xc (by simpa using h3)] at hc;simp [Fp.no] at hc
  ·simp only [qD,bj,cA,aC] at h3
   have:=(h3 i hi).2
   rw [hc] at this
   simp only [aC,decide_eq_true_eq,bj,cA,b9,beq_iff_eq,bne_iff_ne] at this
   exact ⟨this.1.1,this.1.2,fun j hj ep=>(this.2 j hj).resolve_left ep⟩
theorem zZ {wr:List Nat}:∀ {i:Nat} {a b:ai},e7 wr i a b→a.length=b.length
 | _,[],[],_=>rfl
 | i,_ :: cm,_ :: bs,h=>by simp [zZ h.2]
 | _,[],_ :: _,h=>h.elim
 | _,_ :: _,[],h=>h.elim
theorem KY {wr:List Nat}:∀ {i:Nat} {a b:ai},e7 wr i a b→∀ c,i+c ∉ wr→a[c]? = b[c]?
 | _,[],[],_,_,_=>rfl
 | i,x :: cm,y :: bs,h,0,hc=>by
  have:=h.1.resolve_left (by simpa using hc)
  simp [this]
 | i,x :: cm,y :: bs,h,c+1,hc=>by
  simp only [dq]
  exact KY h.2 c (by rw [show i+1+c=i+(c+1) by omega];exact hc)
 | _,[],_ :: _,h,_,_=>h.elim
 | _,_ :: _,[],h,_,_=>h.elim
theorem wP {wr:List Nat}:∀ {i:Nat} {a b:ai} (_:a.length=b.length) (c:Nat),(dG wr i a b)[c]? = if i+c∈wr then a[c]? else b[c]?
 | _,[],[],_,c=>by simp [dG]
 | i,x :: cm,y :: bs,h,0=>by by_cases hc:i∈wr<;>simp [dG,hc]
 | i,x :: cm,y :: bs,h,c+1=>by
  simp only [dG,dq]
  rw [wP (by simpa using h) c,show i+1+c=i+(c+1) by omega]
 | _,[],_ :: _,h,_=>by simp at h
 | _,_ :: _,[],h,_=>by simp at h
theorem H2 {wr:List Nat}:∀ {i:Nat} {a b:ai} (_:a.length=b.length),(dG wr i a b).length=b.length
 | _,[],[],_=>rfl
 | i,x :: cm,y :: bs,h=>by simp [dG,H2 (i:=i+1) (a:=cm) (b:=bs) (by simpa using h)]
 | _,[],_ :: _,h=>by simp at h
 | _,_ :: _,[],h=>by simp at h
theorem YU {f:Fp} {σ dk:ai} (h:e7 f.wr 0 dk (dy f σ)) (hd:∀ c∈f.wr,c ∉ f.hd):dG f.wr 0 dk σ=hO (fun b=>!f.hd.contains b) 0 dk σ:=by
 have hl : dk.length = σ.length:=by rw [zZ h,dy,rV]
 apply bQ
 intro c
 rw [wP hl,Ei _ _ _ _ _ (by omega),bp]
 by_cases hc:c∈f.wr
 ·rw [if_pos hc,if_neg (fun q=>hd c hc (by simpa using q.2))]
 ·rw [if_neg hc]
  split
  ·rfl
  ·rename_i hn
   rw [KY h c (by simpa using hc),dy,wj,bp]
   by_cases bG:c < σ.length
   ·have:(!f.hd.contains c)=true:=by
     cases hq:f.hd.contains c
     ·rfl
     ·exact absurd ⟨bG,by simpa using hq⟩ hn
    rw [this];cases σ[c]?<;>rfl
   ·rw [bt (dS bG)];rfl
theorem IB {N b:Nat} {σ:ai} {x:bE}:(dC N σ)[b]? = some (some x)↔σ[b]? = some (some x):=by
 simp only [dC,qJ]
 split
 ·rfl
 ·rename_i h
  rw [bt (l:=σ) (dS h)]
  simp [db]
theorem Lb {N:Nat} {σ:ai} (h : σ.length≤N):(dC N σ).length=N:=by simp [dC];omega
theorem Cw {N:Nat} {σ:ai} {β:Env} {g o:Nat}:ja (dC N σ) β g o↔ja σ β g o:=by
 simp only [ja,IB]
theorem JU {X:Nat→Nat→Prop} {N:Nat} {σ:ai} {β:Env}:MT X (dC N σ) β=MT X σ β:=by
 funext g o;simp only [MT,Cw]
theorem cH.pad {X:Nat→Nat→Prop} {base N:Nat} {σ:ai} {β:Env} {w:World} (h:cH X base σ β w) (hN : σ.length≤N):cH X base (dC N σ) β w :=
 ⟨fun b hb=>h.nO b (by rw [Lb hN] at hb;omega),fun b x hb=>by rw [JU];exact h.cg b x (IB.1 hb),fun b b' x y L L' h1 h2=>h.inj b b' x y L L' (IB.1 h1) (IB.1 h2),h.size,h.qd,h.gl⟩
end Go.c8
