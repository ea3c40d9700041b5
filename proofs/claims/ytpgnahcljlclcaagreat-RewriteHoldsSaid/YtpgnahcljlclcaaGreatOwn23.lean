/- Part 23 of my own framework and of the walks of functions: AbsX. -/
import Derived.Test.YtpgnahcljlclcaaGreatOwn22
import Derived.Orders
set_option linter.unusedVariables false
set_option linter.unusedSectionVars false
set_option linter.unusedSimpArgs false
namespace Go.Abs
open Go
structure Fp where
 nm:Option Nat
 wr:List Nat
 hd:List Nat
def Fp.no:Fp:=⟨none,[],[]⟩
def maskF (f:Fp) (σ:Store):Store:=maskS (fun b=>!f.hd.contains b) 0 σ
def Fp.name (f:Fp) (σ:Store):Nat:=f.nm.getD σ.length
def sameO (wr:List Nat):Nat→Store→Store→Prop
 | _,[],[]=>True
 | i,a :: as_,b :: bs=>(wr.contains i=true∨a=b)∧sameO wr (i+1) as_ bs
 | _,_,_=>False
def mergeW (wr:List Nat):Nat→Store→Store→Store
 | i,a :: as_,b :: bs=>(if wr.contains i=true then a else b) :: mergeW wr (i+1) as_ bs
 | _,_,bs=>bs
def DoOp (P:Program) (op:Op) (tm:List AVal) (σ:Store) (nm:Nat) (r:AVal) (σ1:Store):Prop :=
 match op with
 | .call { callee:=.value f,args, .. }=>VCall P (ev tm f) (args.toList.map (ev tm)) σ fun r' σ'=>r'=r∧σ' = σ1
 | op=>opE P σ nm (ev tm) op=some (r,σ1)
def drawK (P:Program) (lo:Ctx) (Q:AExit→St→Prop) (k:List KI) (ops:Array Oper):List Oper→List Fp→List AVal→Store→Prop
 | [],_,tm,σ=>EvK P lo Q k .normal ⟨tm,σ⟩
 | o :: l,fs,tm,σ=>∃ g,gdA ops tm o=some g∧(g=false→drawK P lo Q k ops l fs.tail (put tm o.dst gone) σ) ∧
   (g=true→∃ r σ1,DoOp P o.op tm (maskF (fs.headD .no) σ) ((fs.headD .no).name σ) r σ1∧sameO (fs.headD .no).wr 0 σ1 (maskF (fs.headD .no) σ) ∧
    drawK P lo Q k ops l fs.tail (put tm o.dst r) (mergeW (fs.headD .no).wr 0 σ1 σ))
def padS (N:Nat) (σ:Store):Store:=σ++List.replicate (N - σ.length) none
def fpAt (fs:List Fp) (i:Nat):Fp:=fs.getD i .no
def dstsOf (ops:Array Oper):List (Option Tmp):=ops.toList.map (·.dst)
def tmpsOk (ops:Array Oper) (b:List Nat) (ds:List (Option Tmp)):Bool :=
 (List.range ops.size).all fun i=>match ops[i]? with
  | none=>true
  | some o=>(o.looksAt ops++o.dst.toList).all fun t=>(List.range ops.size).all fun j=>j==i||(ds.getD j none) != some t||ordB b i j
def namesOk (m:Nat) (b:List Nat) (fs:List Fp) (n0 N:Nat):Bool :=
 (List.range m).all fun i=>((fpAt fs i).wr.all fun c=>decide (c<N) && !(fpAt fs i).hd.contains c&&(List.range m).all fun j=>j==i || !(fpAt fs j).wr.contains c||ordB b i j) &&
  ((List.range m).all fun j=>j==i||(fpAt fs j).wr.all fun c=>(fpAt fs i).hd.contains c||ordB b i j) &&
  (match (fpAt fs i).nm with
  | none=>true
  | some c=>decide (n0≤c)&&decide (c<N)&&(List.range m).all fun j=>j==i||(fpAt fs j).nm != some c)
def drawOk (ops:Array Oper) (fs:List Fp) (n0 N:Nat):Bool :=
 edgesDown ops&&tmpsOk ops (befs [] ops.toList) (dstsOf ops)&&(fs.isEmpty||namesOk ops.size (befs [] ops.toList) fs n0 N)
structure DrawOk (ops:Array Oper) (fs:List Fp) (n0 N:Nat):Prop where
 down:edgesDown ops=true
 tmp:∀ i o,ops[i]? = some o→∀ t,t∈o.looksAt ops∨o.dst=some t→∀ j oj,ops[j]? = some oj→j≠i→oj.dst=some t→Bef ops i j∨Bef ops j i
 own:∀ i,i<ops.size→∀ c∈(fpAt fs i).wr,c<N∧c ∉ (fpAt fs i).hd∧∀ j,j<ops.size→j≠i→c∈(fpAt fs j).wr→Bef ops i j∨Bef ops j i
 see:∀ i,i<ops.size→∀ c,c ∉ (fpAt fs i).hd→∀ j,j<ops.size→j≠i→c∈(fpAt fs j).wr→Bef ops i j∨Bef ops j i
 nam:∀ i,i<ops.size→∀ c,(fpAt fs i).nm=some c→n0≤c∧c<N∧∀ j,j<ops.size→j≠i→(fpAt fs j).nm≠some c
theorem Zk3 {ops:Array Oper} {fs:List Fp} {n0 N:Nat} (h:drawOk ops fs n0 N=true):DrawOk ops fs n0 N:=by
 simp only [drawOk,Bool.and_eq_true,Bool.or_eq_true] at h
 obtain ⟨⟨h1,h2⟩,h3⟩:=h
 have hno:fs=[]→∀ i,fpAt fs i = .no:=fun e i=>by subst e;rfl
 refine ⟨h1,fun i o ho t ht j oj hoj hne hd=>?_,fun i hi c hc=>?_,fun i hi c hc j hj hne hw=>?_,fun i hi c hc=>?_⟩
 ·simp only [tmpsOk,List.all_eq_true,List.mem_range] at h2
  have:=h2 i (Array.getElem?_eq_some_iff.1 ho).1
  rw [ho] at this
  simp only [List.all_eq_true,List.mem_range,Bool.or_eq_true,beq_iff_eq,bne_iff_ne] at this
  have:=this t (by rcases ht with ht | ht<;>simp [ht]) j (Array.getElem?_eq_some_iff.1 hoj).1
  have hds:(dstsOf ops).getD j none=some t:=by simp [dstsOf,List.getD,hoj,hd]
  rcases this with (h4 | h4) | h4
  ·exact absurd h4 hne
  ·exact absurd hds h4
  ·exact Zjb h4
 ·rcases h3 with h3 | h3
  ·rw [hno (by simpa using h3)] at hc;simp [Fp.no] at hc
  ·simp only [namesOk,List.all_eq_true,List.mem_range,Bool.and_eq_true] at h3
   have:=(h3 i hi).1.1 c hc
   simp only [decide_eq_true_eq,Bool.not_eq_true',Bool.or_eq_true,beq_iff_eq] at this
   refine ⟨this.1.1,by simpa using this.1.2,fun j hj hne hw=>?_⟩
   rcases this.2 j hj with (h4 | h4) | h4
   ·exact absurd h4 hne
   ·simp [hw] at h4
   ·exact Zjb h4
 ·rcases h3 with h3 | h3
  ·rw [hno (by simpa using h3)] at hw;simp [Fp.no] at hw
  ·simp only [namesOk,List.all_eq_true,List.mem_range,Bool.and_eq_true] at h3
   have:=(h3 i hi).1.2 j hj
   simp only [Bool.or_eq_true,beq_iff_eq,List.all_eq_true] at this
   rcases this with h4 | h4
   ·exact absurd h4 hne
   ·rcases h4 c hw with h5 | h5
    ·exact absurd (by simpa using h5) hc
    ·exact Zjb h5
 ·rcases h3 with h3 | h3
  ·rw [hno (by simpa using h3)] at hc;simp [Fp.no] at hc
  ·simp only [namesOk,List.all_eq_true,List.mem_range,Bool.and_eq_true] at h3
   have:=(h3 i hi).2
   rw [hc] at this
   simp only [Bool.and_eq_true,decide_eq_true_eq,List.all_eq_true,List.mem_range,Bool.or_eq_true,beq_iff_eq,bne_iff_ne] at this
   exact ⟨this.1.1,this.1.2,fun j hj hne=>(this.2 j hj).resolve_left hne⟩
theorem Zcl {wr:List Nat}:∀ {i:Nat} {a b:Store},sameO wr i a b→a.length=b.length
 | _,[],[],_=>rfl
 | i,_ :: as_,_ :: bs,h=>by simp [Zcl h.2]
 | _,[],_ :: _,h=>h.elim
 | _,_ :: _,[],h=>h.elim
theorem Zjm {wr:List Nat}:∀ {i:Nat} {a b:Store},sameO wr i a b→∀ c,i+c ∉ wr→a[c]? = b[c]?
 | _,[],[],_,_,_=>rfl
 | i,x :: as_,y :: bs,h,0,hc=>by
  have:=h.1.resolve_left (by simpa using hc)
  simp [this]
 | i,x :: as_,y :: bs,h,c+1,hc=>by
  simp only [List.getElem?_cons_succ]
  exact Zjm h.2 c (by rw [show i+1+c=i+(c+1) by omega];exact hc)
 | _,[],_ :: _,h,_,_=>h.elim
 | _,_ :: _,[],h,_,_=>h.elim
theorem Zbk {wr:List Nat}:∀ {i:Nat} {a b:Store} (_:a.length=b.length) (c:Nat),(mergeW wr i a b)[c]? = if i+c∈wr then a[c]? else b[c]?
 | _,[],[],_,c=>by simp [mergeW]
 | i,x :: as_,y :: bs,h,0=>by by_cases hc:i∈wr<;>simp [mergeW,hc]
 | i,x :: as_,y :: bs,h,c+1=>by
  simp only [mergeW,List.getElem?_cons_succ]
  rw [Zbk (by simpa using h) c,show i+1+c=i+(c+1) by omega]
 | _,[],_ :: _,h,_=>by simp at h
 | _,_ :: _,[],h,_=>by simp at h
theorem Zg1 {wr:List Nat}:∀ {i:Nat} {a b:Store} (_:a.length=b.length),(mergeW wr i a b).length=b.length
 | _,[],[],_=>rfl
 | i,x :: as_,y :: bs,h=>by simp [mergeW,Zg1 (i:=i+1) (a:=as_) (b:=bs) (by simpa using h)]
 | _,[],_ :: _,h=>by simp at h
 | _,_ :: _,[],h=>by simp at h
theorem Zvm {f:Fp} {σ σ1:Store} (h:sameO f.wr 0 σ1 (maskF f σ)) (hd:∀ c∈f.wr,c ∉ f.hd):mergeW f.wr 0 σ1 σ=backS (fun b=>!f.hd.contains b) 0 σ1 σ:=by
 have hl : σ1.length = σ.length:=by rw [Zcl h,maskF,Zb4]
 apply List.ext_getElem?
 intro c
 rw [Zbk hl,Zef _ _ _ _ _ (by omega),Nat.zero_add]
 by_cases hc:c∈f.wr
 ·rw [if_pos hc,if_neg (fun q=>hd c hc (by simpa using q.2))]
 ·rw [if_neg hc]
  split
  ·rfl
  ·rename_i hn
   rw [Zjm h c (by simpa using hc),maskF,Zbo,Nat.zero_add]
   by_cases hlt:c < σ.length
   ·have:(!f.hd.contains c)=true:=by
     cases hq:f.hd.contains c
     ·rfl
     ·exact absurd ⟨hlt,by simpa using hq⟩ hn
    rw [this];cases σ[c]?<;>rfl
   ·rw [List.getElem?_eq_none (Nat.le_of_not_lt hlt)];rfl
theorem Zj6 {N b:Nat} {σ:Store} {x:Blk}:(padS N σ)[b]? = some (some x)↔σ[b]? = some (some x):=by
 simp only [padS,List.getElem?_append]
 split
 ·rfl
 ·rename_i h
  rw [List.getElem?_eq_none (l:=σ) (Nat.le_of_not_lt h)]
  simp [List.getElem?_replicate]
theorem Zml {N:Nat} {σ:Store} (h : σ.length≤N):(padS N σ).length=N:=by simp [padS];omega
theorem Zgh {N:Nat} {σ:Store} {β:Env} {g o:Nat}:Mof (padS N σ) β g o↔Mof σ β g o:=by
 simp only [Mof,Zj6]
theorem Yd8 {X:Nat→Nat→Prop} {N:Nat} {σ:Store} {β:Env}:MT X (padS N σ) β=MT X σ β:=by
 funext g o;simp only [MT,Zgh]
theorem RelS.pad {X:Nat→Nat→Prop} {base N:Nat} {σ:Store} {β:Env} {w:World} (h:RelS X base σ β w) (hN : σ.length≤N):RelS X base (padS N σ) β w :=
 ⟨fun b hb=>h.dom b (by rw [Zml hN] at hb;omega),fun b x hb=>by rw [Yd8];exact h.blk b x (Zj6.1 hb),fun b b' x y L L' h1 h2=>h.inj b b' x y L L' (Zj6.1 h1) (Zj6.1 h2),h.size,h.xlt,h.gl⟩
end Go.Abs
