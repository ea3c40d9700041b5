/- Part 23 of my own framework and of the walks of functions: AbsX. -/
import Derived.Test.YtfjbdamcmiglgaaGreatOwn22
import Derived.Orders
set_option linter.unusedVariables false
set_option linter.unusedSectionVars false
set_option linter.unusedSimpArgs false
namespace Go.dm
open Go
structure Fp where
 nm:Option Nat
 wr:List Nat
 hd:List Nat
def Fp.no:Fp:=⟨none,[],[]⟩
def dM (f:Fp) (σ:ai):ai:=fg (fun b=>!f.hd.contains b) 0 σ
def Fp.name (f:Fp) (σ:ai):Nat:=f.nm.getD σ.length
def fB (wr:List Nat):Nat→ai→ai→Prop
 | _,[],[]=>True
 | i,a :: cD,b :: bs=>(wr.contains i=true∨a=b)∧fB wr (i+1) cD bs
 | _,_,_=>False
def dX (wr:List Nat):Nat→ai→ai→ai
 | i,a :: cD,b :: bs=>(if wr.contains i=true then a else b) :: dX wr (i+1) cD bs
 | _,_,bs=>bs
def ln (P:Program) (op:Op) (tm:List ah) (σ:ai) (nm:Nat) (r:ah) (dA:ai):Prop :=
 match op with
 | .call { callee:=.value f,args, .. }=>aq P (ev tm f) (args.toList.map (ev tm)) σ fun r' σ'=>r'=r∧σ' = dA
 | op=>dt P σ nm (ev tm) op=some (r,dA)
def iT (P:Program) (lo:Ctx) (Q:ct→St→Prop) (k:List KI) (ops:Array Oper):List Oper→List Fp→List ah→ai→Prop
 | [],_,tm,σ=>aG P lo Q k .normal ⟨tm,σ⟩
 | o :: l,fs,tm,σ=>∃ g,mN ops tm o=some g∧(g=false→iT P lo Q k ops l fs.tail (put tm o.dst gone) σ) ∧
   (g=true→∃ r dA,ln P o.op tm (dM (fs.headD .no) σ) ((fs.headD .no).name σ) r dA∧fB (fs.headD .no).wr 0 dA (dM (fs.headD .no) σ) ∧
    iT P lo Q k ops l fs.tail (put tm o.dst r) (dX (fs.headD .no).wr 0 dA σ))
def da (N:Nat) (σ:ai):ai:=σ++List.replicate (N - σ.length) none
def dK (fs:List Fp) (i:Nat):Fp:=fs.getD i .no
def dstsOf (ops:Array Oper):List (Option Tmp):=ops.toList.map (·.dst)
def zW (ops:Array Oper) (b:List Nat) (ds:List (Option Tmp)):Bool :=
 (List.range ops.size).all fun i=>match ops[i]? with
  | none=>true
  | some o=>(o.looksAt ops++o.dst.toList).all fun t=>(List.range ops.size).all fun j=>j==i||(ds.getD j none) != some t||zO b i j
def rF (m:Nat) (b:List Nat) (fs:List Fp) (n0 N:Nat):Bool :=
 (List.range m).all fun i=>((dK fs i).wr.all fun c=>decide (c<N) && !(dK fs i).hd.contains c&&(List.range m).all fun j=>j==i || !(dK fs j).wr.contains c||zO b i j) &&
  ((List.range m).all fun j=>j==i||(dK fs j).wr.all fun c=>(dK fs i).hd.contains c||zO b i j) &&
  (match (dK fs i).nm with
  | none=>true
  | some c=>decide (n0≤c)&&decide (c<N)&&(List.range m).all fun j=>j==i||(dK fs j).nm != some c)
def rU (ops:Array Oper) (fs:List Fp) (n0 N:Nat):Bool :=
 j_ ops&&zW ops (uZ [] ops.toList) (dstsOf ops)&&(fs.isEmpty||rF ops.size (uZ [] ops.toList) fs n0 N)
structure tY (ops:Array Oper) (fs:List Fp) (n0 N:Nat):Prop where
 down:j_ ops=true
 tmp:∀ i o,ops[i]? = some o→∀ t,t∈o.looksAt ops∨o.dst=some t→∀ j oj,ops[j]? = some oj→j≠i→oj.dst=some t→kF ops i j∨kF ops j i
 own:∀ i,i<ops.size→∀ c∈(dK fs i).wr,c<N∧c ∉ (dK fs i).hd∧∀ j,j<ops.size→j≠i→c∈(dK fs j).wr→kF ops i j∨kF ops j i
 see:∀ i,i<ops.size→∀ c,c ∉ (dK fs i).hd→∀ j,j<ops.size→j≠i→c∈(dK fs j).wr→kF ops i j∨kF ops j i
 F5:∀ i,i<ops.size→∀ c,(dK fs i).nm=some c→n0≤c∧c<N∧∀ j,j<ops.size→j≠i→(dK fs j).nm≠some c
theorem TC {ops:Array Oper} {fs:List Fp} {n0 N:Nat} (h:rU ops fs n0 N=true):tY ops fs n0 N:=by
 simp only [rU,aB,bR] at h;obtain ⟨⟨h1,h2⟩,h3⟩:=h;have xX:fs=[]→∀ i,dK fs i = .no:=fun e i=>by subst e;rfl
 refine ⟨h1,fun i o ho t ht j oj X_ eH hd=>?_,fun i hi c hc=>?_,fun i hi c hc j hj eH hw=>?_,fun i hi c hc=>?_⟩
 ·simp only [zW,a8,cj] at h2;have:=h2 i (aO.1 ho).1;rw [ho] at this;simp only [a8,cj,bR,beq_iff_eq,bne_iff_ne] at this;have:=this t (by rcases ht with ht | ht<;>simp [ht]) j (aO.1 X_).1;have hds:(dstsOf ops).getD j none=some t:=by simp [dstsOf,List.getD,X_,hd]
  rcases this with (h4 | h4) | h4
  ·exact absurd h4 eH
  ·exact absurd hds h4
  ·exact L7 h4
 ·rcases h3 with h3 | h3
  ·rw [xX (by simpa using h3)] at hc;simp [Fp.no] at hc
  ·simp only [rF,a8,cj,aB] at h3;have:=(h3 i hi).1.1 c hc;simp only [decide_eq_true_eq,bw,bR,beq_iff_eq] at this;refine ⟨this.1.1,by simpa using this.1.2,fun j hj eH hw=>?_⟩;rcases this.2 j hj with (h4 | h4) | h4
   ·exact absurd h4 eH
   ·simp [hw] at h4
   ·exact L7 h4
 ·rcases h3 with h3 | h3
  ·rw [xX (by simpa using h3)] at hw;simp [Fp.no] at hw
  ·simp only [rF,a8,cj,aB] at h3;have:=(h3 i hi).1.2 j hj;simp only [bR,beq_iff_eq,a8] at this;rcases this with h4 | h4
   ·exact absurd h4 eH
   ·rcases h4 c hw with h5 | h5
    ·exact absurd (by simpa using h5) hc
    ·exact L7 h5
 ·rcases h3 with h3 | h3
  ·rw [xX (by simpa using h3)] at hc;simp [Fp.no] at hc
  ·simp only [rF,a8,cj,aB] at h3;have:=(h3 i hi).2;rw [hc] at this;simp only [aB,decide_eq_true_eq,a8,cj,bR,beq_iff_eq,bne_iff_ne] at this;exact ⟨this.1.1,this.1.2,fun j hj eH=>(this.2 j hj).resolve_left eH⟩
theorem A4 {wr:List Nat}:∀ {i:Nat} {a b:ai},fB wr i a b→a.length=b.length
 | _,[],[],_=>rfl
 | i,_ :: cD,_ :: bs,h=>by simp [A4 h.2]
 | _,[],_ :: _,h=>h.elim
 | _,_ :: _,[],h=>h.elim
theorem MC {wr:List Nat}:∀ {i:Nat} {a b:ai},fB wr i a b→∀ c,i+c ∉ wr→a[c]? = b[c]?
 | _,[],[],_,_,_=>rfl
 | i,x :: cD,y :: bs,h,0,hc=>by
  have:=h.1.resolve_left (by simpa using hc);simp [this]
 | i,x :: cD,y :: bs,h,c+1,hc=>by
  simp only [dI];exact MC h.2 c (by rw [show i+1+c=i+(c+1) by omega];exact hc)
 | _,[],_ :: _,h,_,_=>h.elim
 | _,_ :: _,[],h,_,_=>h.elim
theorem xC {wr:List Nat}:∀ {i:Nat} {a b:ai} (_:a.length=b.length) (c:Nat),(dX wr i a b)[c]? = if i+c∈wr then a[c]? else b[c]?
 | _,[],[],_,c=>by simp [dX]
 | i,x :: cD,y :: bs,h,0=>by by_cases hc:i∈wr<;>simp [dX,hc]
 | i,x :: cD,y :: bs,h,c+1=>by
  simp only [dX,dI];rw [xC (by simpa using h) c,show i+1+c=i+(c+1) by omega]
 | _,[],_ :: _,h,_=>by simp at h
 | _,_ :: _,[],h,_=>by simp at h
theorem IY {wr:List Nat}:∀ {i:Nat} {a b:ai} (_:a.length=b.length),(dX wr i a b).length=b.length
 | _,[],[],_=>rfl
 | i,x :: cD,y :: bs,h=>by simp [dX,IY (i:=i+1) (a:=cD) (b:=bs) (by simpa using h)]
 | _,[],_ :: _,h=>by simp at h
 | _,_ :: _,[],h=>by simp at h
theorem Ybk {f:Fp} {σ dA:ai} (h:fB f.wr 0 dA (dM f σ)) (hd:∀ c∈f.wr,c ∉ f.hd):dX f.wr 0 dA σ=iA (fun b=>!f.hd.contains b) 0 dA σ:=by
 have hl : dA.length = σ.length:=by rw [A4 h,dM,sZ]
 apply b_;intro c;rw [xC hl,E6 _ _ _ _ _ (by omega),bq];by_cases hc:c∈f.wr
 ·rw [if_pos hc,if_neg (fun q=>hd c hc (by simpa using q.2))]
 ·rw [if_neg hc];split
  ·rfl
  ·rename_i hn;rw [MC h c (by simpa using hc),dM,w9,bq];by_cases bA:c < σ.length
   ·have:(!f.hd.contains c)=true:=by
     cases hq:f.hd.contains c
     ·rfl
     ·exact absurd ⟨bA,by simpa using hq⟩ hn
    rw [this];cases σ[c]?<;>rfl
   ·rw [bt (eA bA)];rfl
theorem JK {N b:Nat} {σ:ai} {x:bO}:(da N σ)[b]? = some (some x)↔σ[b]? = some (some x):=by
 simp only [da,rL];split
 ·rfl
 ·rename_i h;rw [bt (l:=σ) (eA h)];simp [dv]
theorem MG {N:Nat} {σ:ai} (h : σ.length≤N):(da N σ).length=N:=by simp [da];omega
theorem Dm {N:Nat} {σ:ai} {β:Env} {g o:Nat}:jr (da N σ) β g o↔jr σ β g o:=by
 simp only [jr,JK]
theorem KT {X:Nat→Nat→Prop} {N:Nat} {σ:ai} {β:Env}:MT X (da N σ) β=MT X σ β:=by
 funext g o;simp only [MT,Dm]
theorem cS.pad {X:Nat→Nat→Prop} {base N:Nat} {σ:ai} {β:Env} {w:World} (h:cS X base σ β w) (hN : σ.length≤N):cS X base (da N σ) β w :=
 ⟨fun b hb=>h.oo b (by rw [MG hN] at hb;omega),fun b x hb=>by rw [KT];exact h.cw b x (JK.1 hb),fun b b' x y L L' h1 h2=>h.inj b b' x y L L' (JK.1 h1) (JK.1 h2),h.size,h.qL,h.gl⟩
end Go.dm
