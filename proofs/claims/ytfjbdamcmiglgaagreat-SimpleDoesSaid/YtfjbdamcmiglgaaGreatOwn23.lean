/- Part 23 of what the claim rests on. -/
import Derived.Test.YtfjbdamcmiglgaaGreatOwn22
import Derived.Orders
set_option linter.all false
namespace Go.dq
open Go
structure Fp where
 nm:Option Nat
 wr:List Nat
 hd:List Nat
def Fp.no:Fp:=⟨none,[],[]⟩
def dW (f:Fp)(σ:av):av:=fB (λb=>!f.hd.contains b) 0 σ
def Fp.name (f:Fp)(σ:av):Nat:=f.nm.getD σ.length
def fG (wr:List Nat):Nat->av->av->Prop
 |_,[],[]=>True
 |i,a :: cI,b :: bs=>(wr.contains i=true\/a=b)/\fG wr (i+1) cI bs
 |_,_,_=>False
def ew (wr:List Nat):Nat->av->av->av
 |i,a :: cI,b :: bs=>(if wr.contains i=true then a else b):: ew wr (i+1) cI bs
 |_,_,bs=>bs
def l7 (P:Program)(op:Op)(tm:List ah)(σ:av)(nm:Nat)(r:ah)(σ1:av):Prop :=
 match op with
 |.call { callee:=.value f,args,.. }=>ak P (ev tm f) (args.toList.map (ev tm)) σ λr' σ'=>r'=r/\σ' = σ1
 |op=>dJ P σ nm (ev tm) op=some (r,σ1)
def iw (P:Program) (lo:Ctx) (Q:cB->St->Prop) (k:List KI) (ops:Array Oper):List Oper->List Fp->List ah->av->Prop
 |[],_,tm,σ=>aC P lo Q k .normal ⟨tm,σ⟩
 | o :: l,fs,tm,σ=>∃g,nc ops tm o=some g/\(g=false->iw P lo Q k ops l fs.tail (put tm o.dst gone) σ) /\
   (g=true->∃r σ1,l7 P o.op tm (dW (fs.headD .no) σ) ((fs.headD .no).name σ) r σ1/\fG (fs.headD .no).wr 0 σ1 (dW (fs.headD .no) σ) /\
    iw P lo Q k ops l fs.tail (put tm o.dst r) (ew (fs.headD .no).wr 0 σ1 σ))
def cM (N:Nat)(σ:av):av:=σ++List.replicate (N-σ.length) none
def dG (fs:List Fp)(i:Nat):Fp:=fs.getD i .no
def dstsOf (ops:Array Oper):List (Option Tmp):=ops.toList.map (·.dst)
def Bz (ops:Array Oper) (b:List Nat) (ds:List (Option Tmp)):Bool :=
 (List.range ops.size).all λi=>match ops[i]? with
  |none=>true
  |some o=>(o.looksAt ops++o.dst.toList).all λt=>(List.range ops.size).all λj=>j==i||(ds.getD j none) != some t||Bp b i j
def sX (m:Nat) (b:List Nat) (fs:List Fp) (n0 N:Nat):Bool :=
 (List.range m).all λi=>((dG fs i).wr.all λc=>decide (c<N) && !(dG fs i).hd.contains c&&(List.range m).all λj=>j==i || !(dG fs j).wr.contains c||Bp b i j) &&
  ((List.range m).all λj=>j==i||(dG fs j).wr.all λc=>(dG fs i).hd.contains c||Bp b i j) &&
  (match (dG fs i).nm with
  |none=>true
  |some c=>decide (n0<=c)&&decide (c<N)&&(List.range m).all λj=>j==i||(dG fs j).nm != some c)
def rj (ops:Array Oper)(fs:List Fp)(n0 N:Nat):Bool :=
 kH ops&&Bz ops (uz [] ops.toList) (dstsOf ops)&&(fs.isEmpty||sX ops.size (uz [] ops.toList) fs n0 N)
structure vp (ops:Array Oper)(fs:List Fp)(n0 N:Nat):Prop where
 down:kH ops=true
 tmp:∀i o,ops[i]? = some o->∀t,t∈o.looksAt ops\/o.dst=some t->∀j oj,ops[j]? = some oj->j≠i->oj.dst=some t->ku ops i j\/ku ops j i
 own:∀i,i<ops.size->∀c∈(dG fs i).wr,c<N/\c ∉ (dG fs i).hd/\∀j,j<ops.size->j≠i->c∈(dG fs j).wr->ku ops i j\/ku ops j i
 see:∀i,i<ops.size->∀c,c ∉ (dG fs i).hd->∀j,j<ops.size->j≠i->c∈(dG fs j).wr->ku ops i j\/ku ops j i
 Gd:∀i,i<ops.size->∀c,(dG fs i).nm=some c->n0<=c/\c<N/\∀j,j<ops.size->j≠i->(dG fs j).nm≠some c
theorem Nx {ops:Array Oper} {fs:List Fp} {n0 N:Nat} (h:rj ops fs n0 N=true):vp ops fs n0 N:=by
 simp only[rj,aG,cb]at h;obtain⟨⟨h1,h2⟩,h3⟩:=h;have zk:fs=[]->∀i,dG fs i=.no:=λe i=>by subst e;rfl
 refine⟨h1,λi o ho t ht j oj hoj dL hd=>?_,λi hi c hc=>?_,λi hi c hc j hj dL hw=>?_,λi hi c hc=>?_⟩
 ·simp only[Bz,bu,cd]at h2;have:=h2 i (aQ.1 ho).1;rw[ho]at this;simp only[bu,cd,cb,beq_iff_eq,bne_iff_ne]at this;have:=this t (by rcases ht with ht|ht<;>simp[ht]) j (aQ.1 hoj).1;have hds:(dstsOf ops).getD j none=some t:=by simp[dstsOf,List.getD,hoj,hd]
  rcases this with(h4|h4) | h4
  ·exact absurd h4 dL
  ·exact absurd hds h4
  ·exact Oj h4
 ·rcases h3 with h3|h3
  ·rw[zk (by simpa using h3)]at hc;simp[Fp.no]at hc
  ·simp only[sX,bu,cd,aG]at h3;have:=(h3 i hi).1.1 c hc;simp only[decide_eq_true_eq,bX,cb,beq_iff_eq]at this;refine⟨this.1.1,by simpa using this.1.2,λj hj dL hw=>?_⟩;rcases this.2 j hj with(h4|h4) | h4
   ·exact absurd h4 dL
   ·simp[hw]at h4
   ·exact Oj h4
 ·rcases h3 with h3|h3
  ·rw[zk (by simpa using h3)]at hw;simp[Fp.no]at hw
  ·simp only[sX,bu,cd,aG]at h3;have:=(h3 i hi).1.2 j hj;simp only[cb,beq_iff_eq,bu]at this;rcases this with h4|h4
   ·exact absurd h4 dL
   ·rcases h4 c hw with h5|h5
    ·exact absurd (by simpa using h5) hc
    ·exact Oj h5
 ·rcases h3 with h3|h3
  ·rw[zk (by simpa using h3)]at hc;simp[Fp.no]at hc
  ·simp only[sX,bu,cd,aG]at h3;have:=(h3 i hi).2;rw[hc]at this;simp only[aG,decide_eq_true_eq,bu,cd,cb,beq_iff_eq,bne_iff_ne]at this;exact⟨this.1.1,this.1.2,λj hj dL=>(this.2 j hj).resolve_left dL⟩
theorem BK {wr:List Nat}:∀ {i:Nat} {a b:av},fG wr i a b->a.length=b.length
 |_,[],[],_=>rfl
 |i,_ :: cI,_ :: bs,h=>by simp[BK h.2]
 |_,[],_ :: _,h=>h.elim
 |_,_ :: _,[],h=>h.elim
theorem OM {wr:List Nat}:∀ {i:Nat} {a b:av},fG wr i a b->∀c,i+c ∉ wr->a[c]? = b[c]?
 |_,[],[],_,_,_=>rfl
 |i,x :: cI,y :: bs,h,0,hc=>by
  have:=h.1.resolve_left (by simpa using hc);simp[this]
 |i,x :: cI,y :: bs,h,c+1,hc=>by
  simp only[dS];exact OM h.2 c (by rw[show i+1+c=i+(c+1) by omega];exact hc)
 |_,[],_ :: _,h,_,_=>h.elim
 |_,_ :: _,[],h,_,_=>h.elim
theorem yk {wr:List Nat}:∀ {i:Nat} {a b:av} (_:a.length=b.length) (c:Nat),(ew wr i a b)[c]? = if i+c∈wr then a[c]? else b[c]?
 |_,[],[],_,c=>by simp[ew]
 |i,x :: cI,y :: bs,h,0=>by by_cases hc:i∈wr<;>simp[ew,hc]
 |i,x :: cI,y :: bs,h,c+1=>by
  simp only[ew,dS];rw[yk (by simpa using h) c,show i+1+c=i+(c+1) by omega]
 |_,[],_ :: _,h,_=>by simp at h
 |_,_ :: _,[],h,_=>by simp at h
theorem KO {wr:List Nat}:∀ {i:Nat} {a b:av} (_:a.length=b.length),(ew wr i a b).length=b.length
 |_,[],[],_=>rfl
 |i,x :: cI,y :: bs,h=>by simp[ew,KO (i:=i+1) (a:=cI) (b:=bs) (by simpa using h)]
 |_,[],_ :: _,h=>by simp at h
 |_,_ :: _,[],h=>by simp at h
theorem Ybn {f:Fp} {σ σ1:av} (h:fG f.wr 0 σ1 (dW f σ)) (hd:∀c∈f.wr,c ∉ f.hd):ew f.wr 0 σ1 σ=jb (λb=>!f.hd.contains b) 0 σ1 σ:=by
 have hl : σ1.length = σ.length:=by rw[BK h,dW,uj]
 apply bZ;intro c;rw[yk hl,GJ _ _ _ _ _ (by omega),br];by_cases hc:c∈f.wr
 ·rw[if_pos hc,if_neg (λq=>hd c hc (by simpa using q.2))]
 ·rw [if_neg hc];split
  ·rfl
  ·rename_i hn;rw[OM h c (by simpa using hc),dW,ym,br];by_cases bx:c < σ.length
   ·have:(!f.hd.contains c)=true:=by
     cases hq:f.hd.contains c
     ·rfl
     ·exact absurd ⟨bx,by simpa using hq⟩ hn
    rw[this];cases σ[c]?<;>rfl
   ·rw[bB (en bx)];rfl
theorem Lq {N b:Nat}{σ:av}{x:bS}:(cM N σ)[b]? = some (some x)↔σ[b]? = some (some x):=by
 simp only[cM,tb];split
 ·rfl
 ·rename_i h;rw[bB (l:=σ) (en h)];simp[dz]
theorem Ln {N:Nat}{σ:av}(h : σ.length<=N):(cM N σ).length=N:=by simp[cM];omega
theorem BT {N:Nat}{σ:av}{β:Env}{g o:Nat}:jR (cM N σ) β g o↔jR σ β g o:=by
 simp only[jR,Lq]
theorem Ko {X:Nat->Nat->Prop}{N:Nat}{σ:av}{β:Env}:MT X (cM N σ) β=MT X σ β:=by
 funext g o;simp only[MT,BT]
theorem c8.pad {X:Nat->Nat->Prop}{base N:Nat}{σ:av}{β:Env}{w:World}(h:c8 X base σ β w)(hN : σ.length<=N):c8 X base (cM N σ) β w :=
 ⟨λb hb=>h.o_ b (by rw[Ln hN]at hb;omega),λb x hb=>by rw[Ko];exact h.cG b x (Lq.1 hb),λb b' x y L L' h1 h2=>h.inj b b' x y L L' (Lq.1 h1) (Lq.1 h2),h.size,h.sc,h.gl⟩
end Go.dq
