/- Part 44 of my own framework and of the walks of functions: Ps, Sa, AcsR, AcsS, AcsT, AcsU. -/
import Derived.Test.YtfjbdamcmiglgaaGreatOwn43
abbrev bV:=@List.any_eq_true
abbrev nr:=@List.any_nil
set_option linter.unusedVariables false
set_option linter.unusedSectionVars false
set_option linter.unusedSimpArgs false
namespace Go.Proofs
open Go Go.dm
attribute [local go_sem] Nat.reduceAdd Nat.reduceSub Nat.reduceMul Nat.reduceLeDiff Nat.reduceEqDiff Nat.reduceBEq
def sC (g:List Sy) (l:Li):ah:=.agg [.ps 4 (syms g), .bool l.neg, .int .i64 l.l.head, .ps 2 (l.l.args.map Tm.aM), .int .i64 l.r.head, .ps 2 (l.r.args.map Tm.aM)]
theorem yn (g:List Sy) (l:Li):sC g l = .agg [.ps 4 (syms g), .bool l.neg, .int .i64 l.l.head, .ps 2 (l.l.args.map Tm.aM), .int .i64 l.r.head, .ps 2 (l.r.args.map Tm.aM)]:=rfl
theorem E2 {n:Nat} (g:List Sy) (l:Li):(sC g l).low n:=⟨dy _,trivial,trivial,bW _,trivial,bW _,trivial⟩
theorem Yup (g:List Sy) (l:Li) (fJ:l.l.size<999999999):aD Tryz.prog 98 [sC g l] (.int .i64 (l.l.term g)):=by
 refine aD.begin (rs:=[.tmp 2]) (m:=8) 1000 Tryz.func98 rfl rfl rfl (by decide) trivial ?_;simp only [go_sem,yn,ae];rw [← cZ];refine aq.bS [] (MJ g l.l fJ) (cx _ _ _) (by simp [go_sem,dy,dG]) ?_;simp only [bC,bN,bL,if_true];refine aG.go 1000 ?_;simp only [go_sem]
theorem Ykb (g:List Sy) (l:Li) (fJ:l.r.size<999999999):aD Tryz.prog 99 [sC g l] (.int .i64 (l.r.term g)):=by
 refine aD.begin (rs:=[.tmp 2]) (m:=8) 1000 Tryz.func99 rfl rfl rfl (by decide) trivial ?_;simp only [go_sem,yn,ae];rw [← cZ];refine aq.bS [] (MJ g l.r fJ) (cx _ _ _) (by simp [go_sem,dy,dG]) ?_;simp only [bC,bN,bL,if_true];refine aG.go 1000 ?_;simp only [go_sem]
theorem V5 (g:List Sy) (l:Li) (t:Tm) (h:t.head<g.length):aD Tryz.prog 136 [sC g l,t.aM] (.bool (t.cd g)):=by
 refine aD.begin (rs:=[.tmp 4]) (m:=15) 1000 Tryz.func136 rfl rfl rfl (by decide) trivial ?_;by_cases c1 : 0≤t.head
 ·have hi:t.head.toNat<g.length:=by omega
  have zu:iV g t.head=g[t.head.toNat]:=yq hi;simp only [go_sem,yn,cZ,c1,ld,qS hi,pU];refine ⟨by omega,?_⟩;simp [Tm.cd,c1,h,zu]
 ·simp only [go_sem,yn,cZ,c1,Tm.cd]
def Li.sorts (g:List Sy) (l:Li):Int:=if (l.l.cd g&&decide (l.r.head≠0))||(!l.l.cd g&&l.r.cd g) then 10 else 0
theorem Yob (g:List Sy) (l:Li) (h1:l.l.head<g.length) (h2:l.r.head<g.length):aD Tryz.prog 100 [sC g l] (.int .i64 (l.sorts g)):=by
 refine aD.begin (rs:=[.tmp 2]) (m:=27) 1000 Tryz.func100 rfl rfl rfl (by decide) trivial ?_;simp only [go_sem,yn,ae];rw [← cZ,← yn];refine aq.bS [] (V5 g l l.l h1) (cx _ _ _) (by simp [go_sem,E2,dG]) ?_;simp only [bC,bN,bL,if_true];refine aG.go 1000 ?_;cases c1:l.l.cd g with
 | true =>
  by_cases c2:l.r.head=0
  ·simp only [go_sem,c2];simp [Li.sorts,c1,c2]
  ·simp only [go_sem,c2];simp [Li.sorts,c1,c2]
 | false =>
  simp only [go_sem,ae];rw [← cZ,← yn];refine aq.bS [] (V5 g l l.r h2) (cx _ _ _) (by simp [go_sem,E2,dG]) ?_;simp only [bC,bN,bL,if_true];refine aG.go 1000 ?_;cases c2:l.r.cd g <;>
  ·simp only [go_sem];simp [Li.sorts,c1,c2]
theorem IC (g:List Sy) (l:Li):l.check g=if l.l.term g≠0 then l.l.term g else if l.r.term g≠0 then l.r.term g else l.sorts g:=rfl
theorem RA {g:List Sy} {t:Tm} (h:t.known g=true) (hg : 1≤g.length):t.head<g.length:=by
 obtain ⟨hd,ts⟩:=t;simp only [Tm.head];by_cases c:hd<0
 ·omega
 ·simp only [Tm.known,decide_eq_false c,dk,aB,bw,decide_eq_false_iff_not] at h;omega
theorem Ypa {g:List Sy} {t:Tm} (h:t.term g=0):eg g=true:=by
 unfold Tm.term at h;split at h
 ·omega
 ·rename_i h2;simpa using h2
theorem Ymj (g:List Sy) (l:Li) (hl:l.l.size<999999999) (hr:l.r.size<999999999):aD Tryz.prog 97 [sC g l, .ps 1 [.fn 98 [] [], .fn 99 [] [], .fn 100 [] []]] (.int .i64 (l.check g)):=by
 refine aD.begin (rs:=[.tmp 4]) (m:=19) 1000 Tryz.func97 rfl rfl rfl (by decide) trivial ?_;simp only [go_sem,yn];refine aG.cO (ι:={i:Nat // i≤3∧(1≤i→l.l.term g=0)∧(2≤i→l.r.term g=0)∧(3≤i→l.sorts g=0)}) 1000 (fun i=>fe 21 [(2, .ptr 0 0),(8, .ps 1 [.fn 98 [] [], .fn 99 [] [], .fn 100 [] []]),(9, .int .i64 ((3:Nat):Int)),(10, .int .i64 i.1)])
  (fun _=>[some (.var [.ps 4 (syms g), .bool l.neg, .int .i64 l.l.head, .ps 2 (l.l.args.map Tm.aM), .int .i64 l.r.head, .ps 2 (l.r.args.map Tm.aM)])]) (fun i=>3 - i.1) ⟨0,by omega,by omega,by omega,by omega⟩ ?_ (fun _=>au _) ?_
 ·simp only [go_sem,dy,bW,br,a_]
 ·rintro ⟨i,hi,h1,h2,h3⟩;have n0:((0:Nat):Int)=0:=rfl;have n1:((1:Nat):Int)=1:=rfl;have n2:((2:Nat):Int)=2:=rfl;have n3:((3:Nat):Int)=3:=rfl;rcases (by omega:i=0∨i=1∨i=2∨i=3) with rfl | rfl | rfl | rfl
  ·simp only [go_sem,n0,n1,n2,n3,Int.reduceLT,Int.reduceLE,ax,aS,Int.reduceToNat,bm,bI,ae];rw [← yn];refine aq.bS [] (Yup g l hl) (cx _ _ _) (by simp [go_sem,E2]) ?_;simp only [bC,bN,bL,if_true];refine aG.go 1000 ?_;by_cases c:l.l.term g=0
   ·simp only [go_sem,c];refine ⟨⟨1,by omega,fun _=>c,by omega,by omega⟩,?_,by simp only;omega⟩;simp only [go_sem,dy,bW,a_];rfl
   ·simp only [go_sem,c];refine aG.go 1000 ?_;simp only [go_sem];rw [IC,if_pos c]
  ·simp only [go_sem,n0,n1,n2,n3,Int.reduceLT,Int.reduceLE,ax,aS,Int.reduceToNat,bm,bI,ae];rw [← yn];refine aq.bS [] (Ykb g l hr) (cx _ _ _) (by simp [go_sem,E2]) ?_;simp only [bC,bN,bL,if_true];refine aG.go 1000 ?_;by_cases c:l.r.term g=0
   ·simp only [go_sem,c];refine ⟨⟨2,by omega,fun _=>h1 (by omega),fun _=>c,by omega⟩,?_,by simp only;omega⟩;simp only [go_sem,dy,bW,a_];rfl
   ·simp only [go_sem,c];refine aG.go 1000 ?_;simp only [go_sem];rw [IC,if_neg (by simp [h1 (by omega)]),if_pos c]
  ·have t1:=h1 (by omega);have t2:=h2 (by omega);have hg:=(LW (Ypa t1)).1;simp only [go_sem,n0,n1,n2,n3,Int.reduceLT,Int.reduceLE,ax,aS,Int.reduceToNat,bm,bI,ae];rw [← yn];refine aq.bS [] (Yob g l (RA (mg t1).2.1 hg) (RA (mg t2).2.1 hg)) (cx _ _ _) (by simp [go_sem,E2]) ?_;simp only [bC,bN,bL,if_true];refine aG.go 1000 ?_;by_cases c:l.sorts g=0
   ·simp only [go_sem,c];refine ⟨⟨3,by omega,fun _=>t1,fun _=>t2,fun _=>c⟩,?_,by simp only;omega⟩;simp only [go_sem,dy,bW,a_];rfl
   ·simp only [go_sem,c];refine aG.go 1000 ?_;simp only [go_sem];rw [IC,if_neg (by simp [t1]),if_neg (by simp [t2])]
  ·simp only [go_sem,n0,n1,n2,n3,Int.reduceLT];refine aG.go 1000 ?_;simp only [go_sem];rw [IC,if_neg (by simp [h1 (by omega)]),if_neg (by simp [h2 (by omega)]),h3 (by omega)]
theorem Mj (g:List Sy) (l:Li) (hl:l.l.size<999999999) (hr:l.r.size<999999999):aD Tryz.prog 62 [.ps 4 (syms g),l.aM] (.int .i64 (l.check g)):=by
 refine aD.begin (rs:=[.tmp 4]) (m:=8) 1000 Tryz.func62 rfl rfl rfl (by decide) trivial ?_;simp only [go_sem,Li.aM,Li.cs];refine ⟨rfl,rfl,rfl,by decide,?_⟩;rw [← yn];refine aq.bS [1] (Ymj g l hl hr) ?_ (by simp [go_sem,E2]) ?_
 ·simp only [go_sem,rr,rv]
 simp only [bC,bN,bL,if_true];refine aG.go 1000 ?_;simp only [go_sem]
theorem Gq (g:List Sy) (c:List Li) (hs:∀ (i:Nat) (h:i<c.length),c[i].l.size<999999999∧c[i].r.size<999999999):aD Tryz.prog 28 [.ps 4 (syms g), .ps 5 (lits c)] (.int .i64 (aZ g c)):=by
 refine aD.begin (rs:=[.tmp 4]) (m:=28) 1000 Tryz.func28 rfl rfl rfl (by decide) trivial ?_;simp only [go_sem];refine aq.bS [] (Tq g) (cx _ _ _) (by simp [go_sem,dy]) ?_;simp only [bC,bN,bL,if_true];refine aG.go 1000 ?_;cases c1:eg g with
 | false =>
  simp only [go_sem,Int.reduceEq];simp [aZ,c1]
 | true =>
 by_cases c2 : 32<(c.length:Int)
 ·simp only [go_sem,fR,c2];simp [aZ,c1,c2]
 simp only [go_sem,fR,c2];have CD:aZ g c=dh g c:=by simp [aZ,c1,c2]
 rw [CD];refine aG.cO (ι:={i:Nat // i≤c.length∧dh g (c.drop i)=dh g c}) 1000 (fun i=>fe 30 [(0, .ps 4 (syms g)),(17, .ps 5 (lits c)),(18, .int .i64 c.length),(19, .int .i64 i.1)]) (fun _=>[]) (fun i=>c.length - i.1) ⟨0,by simp⟩ ?_ (fun _=>au _) ?_
 ·simp only [go_sem,dy,cy,fR,br]
 ·rintro ⟨i,hi,aN⟩;by_cases bA:(i:Int)<c.length
  ·have aU:i<c.length:=by omega
   rw [SH g c i aU] at aN;simp only [go_sem,fR,bA,aR,tz aU,kH,ae];refine ⟨by omega,?_⟩;have fJ:=hs i aU;refine aq.bS [] (Mj g c[i] fJ.1 fJ.2) (by simp only [Li.aM,Li.cs];exact cx _ _ _) (by simp [go_sem,dy,nt]) ?_;simp only [bC,bN,bL,if_true];refine aG.go 1000 ?_;by_cases c3:c[i].check g=0
   ·simp only [go_sem,c3];rw [if_neg (by simp [c3])] at aN;refine ⟨⟨i+1,aU,aN⟩,?_,by simp only;omega⟩;simp only [go_sem,dy,cy];rw [dQ (by omega)];rfl
   ·simp only [go_sem,c3];rw [if_pos c3] at aN;refine aG.go 1000 ?_;simp only [go_sem,aN]
  ·simp only [go_sem,fR,bA];refine aG.go 1000 ?_;simp only [go_sem];have:i=c.length:=by omega
   subst this;rw [← aN,aX,dh]
theorem Yfk (c:List Li) (hc:c.length<1000000):aD Tryz.prog 74 [.ps 5 (lits c)] (.ps 2 ((ck c).map Tm.aM)):=by
 refine aD.begin (rs:=[.tmp 2]) (m:=20) 1000 Tryz.func74 rfl rfl rfl (by decide) (bW _) ?_;simp only [go_sem,fR];refine aG.gf (ι:={i:Nat // i≤c.length}) 1000 (fun i=>fe 21 [(3,jk 0 2 ((ck (c.take i.1)).map Tm.aM)),(6, .ps 5 (lits c)),(7, .int .i64 c.length),(8, .int .i64 i.1)]) (fun i=>[fx ((ck (c.take i.1)).map Tm.aM)]) (fun i=>c.length - i.1) ⟨0,by omega⟩ [] ?_ (fun _=>by simp) ?_
 ·refine iz rfl ?_;simp only [go_sem,ck,lY,s_,sM,cy,cK,br]
 ·rintro ⟨i,hi⟩;have Pb:=E5 (c.take i);have pg:(c.take i).length≤c.length:=by rw [cA];omega
  have fP:=fun h=>LL c i h;generalize hq:ck (c.take i)=q at *
  by_cases bA:(i:Int)<c.length
  ·have aU:i<c.length:=by omega
   simp only [go_sem,fR,bA,hq,aR,tz aU,kH,ae,JN,eW,aQ,dW,forall_eq_or_imp,forall_eq,cI,aj];refine ⟨by omega,by omega,⟨i+1,aU⟩,[(0,3),(3,0)],iz rfl ?_,by simp only;omega⟩;simp only [fP aU];rw [dQ (by omega)];have e1:(q++[c[i].l,c[i].r]).map Tm.aM=q.map Tm.aM++[.agg [.int .i64 c[i].l.head, .ps 2 (c[i].l.args.map Tm.aM)], .agg [.int .i64 c[i].r.head, .ps 2 (c[i].r.args.map Tm.aM)]]:=by
    rw [cY,aK,aK,aV,cZ c[i].l,cZ c[i].r]
   have lw:bF 0 ((q++[c[i].l,c[i].r]).map Tm.aM):=bW _;rw [e1] at lw ⊢;rw [wo (by simp),wm (by simp)];simp only [go_sem,cy,cK,cK lw,aj,iO (au 1) lw,eR,eS,a_]
  ·simp only [go_sem,bA];refine aG.go 1000 ?_;have:i=c.length:=by omega
   subst this;rw [bZ] at hq;simp only [go_sem,hq,rO]
end Go.Proofs
namespace Go.Proofs
open Go Go.dm
attribute [local go_sem] Nat.reduceAdd Nat.reduceSub Nat.reduceMul Nat.reduceLeDiff Nat.reduceEqDiff Nat.reduceBEq Nat.reduceLT Nat.le_refl Int.natCast_zero Nat.sub_zero List.length_map Int.toNat_natCast Int.natCast_one Int.reduceEq Int.reduceLT Int.reduceLE Int.reduceNe Int.sub_zero Int.zero_add Int.toNat_one
def kl (p:Int→Bool) (vs:List Int) (seen:List Nat):Bool:=seen.any fun i=>p (vs.getD i 0)
theorem RO (p q:Nat→Bool) (h:∀ x,p x=true→q x=true):∀ l:List Nat,(l.filter p).length≤(l.filter q).length
 | []=>ae _
 | x :: l=>by
  have:=RO p q h l;simp only [List.filter_cons];cases hp:p x with
  | true=>simp [h x hp];omega
  | false=>cases hq:q x<;>simp<;>omega
theorem QX (p q:Nat→Bool) (h:∀ x,p x=true→q x=true):∀ (l:List Nat) (i:Nat),i∈l→q i=true→p i=false→(l.filter p).length<(l.filter q).length
 | x :: l,i,hi,h1,h2=>by
  have hle:=RO p q h l;simp only [List.filter_cons];rcases aQ.1 hi with rfl | hi
  ·simp [h1,h2];omega
  ·have:=QX p q h l i hi h1 h2;cases hp:p x with
   | true=>simp [h x hp];omega
   | false=>cases hq:q x<;>simp<;>omega
def uA (n:Nat) (seen:List Nat):Nat:=((List.range n).filter fun j=>!seen.contains j).length
theorem VF {n j:Nat} {seen:List Nat} (hj:j<n) (hn:j ∉ seen):uA n (seen++[j])<uA n seen :=
 QX _ _ (fun x hx=>by
  simp only [bw,← dw,qO] at hx ⊢;exact fun h=>hx (aY.2 (.inl h))) _ j (cj.2 hj) (by simpa using hn) (by simp)
theorem Ypk (w:Int) (ks:List ah) (vs:List Int) (h:ks.length=vs.length) (hk:bF 0 ks):aD Tryz.prog 228 [.pp [.int .i64 w, .pm ks (ints vs)]] (.dT [.bool (vs.any fun n=>decide (0<n)), .bool (vs.any fun n=>decide (n<0))]):=by
 refine aD.begin (rs:=[.tmp 2, .tmp 3]) (m:=28) 1000 Tryz.func228 rfl rfl rfl (by decide) ⟨trivial,trivial,trivial⟩ ?_;simp only [go_sem];refine aG.cO (ι:={seen:List Nat // ∀ i∈seen,i<ks.length}) 1000 (fun x=>fe 29 [(2, .bool false),(3, .bool false),(4, .bool (kl (fun n=>decide (0<n)) vs x.1)),(5, .bool (kl (fun n=>decide (n<0)) vs x.1)),(12, .it 0)])
  (fun x=>[some (.lL ks (ints vs) x.1)]) (fun x=>uA ks.length x.1) ⟨[],fun i hi=>by cases hi⟩ ?_ (fun _=>au _) ?_
 ·simp only [go_sem,kl,nr];exact ⟨iO (au 1) hk,dq _⟩
 ·rintro ⟨seen,hs⟩;simp only [go_sem];refine ⟨0,ks,ints vs,seen,rfl,rfl,fun j hj hn=>?_,fun fq=>?_⟩
  ·have X3:j<vs.length:=by omega
   have H6:∀ i∈seen++[j],i<ks.length:=fun i hi=>by
    rcases aY.1 hi with hi | hi
    ·exact hs i hi
    ·rw [aL.1 hi];exact hj
   have uf:∀ p:Int→Bool,kl p vs (seen++[j])=(kl p vs seen||p (vs.getD j 0)):=fun p=>by simp [kl]
   have hg:(ints vs).getD j .undef = .int .i64 (vs.getD j 0):=by
    rw [s0 X3];simp [List.getD,av X3]
   generalize vs.getD j 0=v at uf hg;have h1:=uf fun n=>decide (0<n);have h2:=uf fun n=>decide (n<0);generalize ha:kl (fun n=>decide (0<n)) vs seen=a at h1;generalize hb:kl (fun n=>decide (n<0)) vs seen=b at h2;cases a<;>cases b<;>(
    refine aG.go 1000 ?_;simp only [go_sem,hg,ha,hb];refine ⟨⟨seen++[j],H6⟩,?_,VF hj hn⟩;simp only [go_sem,h1,h2,dq,hk,iO (au 1) hk]
    first | done | exact ⟨f_ _,by decide⟩ | exact f_ _ | decide | trace_state)
  ·have gR:∀ p:Int→Bool,kl p vs seen=vs.any p:=fun p=>by
    rw [dU,kl,bV,bV];constructor
    ·rintro ⟨i,hi,hp⟩;have XY:i<vs.length:=by have:=hs i hi;omega
     exact ⟨vs[i],aC XY,by simpa [List.getD,av XY] using hp⟩
    ·rintro ⟨x,hx,hp⟩;obtain ⟨i,hi,rfl⟩:=e9.1 hx;exact ⟨i,fq i (by omega),by simpa [List.getD,av hi] using hp⟩
   refine aG.go 1000 ?_;simp only [go_sem];refine aG.go 1000 ?_;simp only [go_sem,gR]
def nj (n:Int) (more less:Bool):Int:=if 0<n∧less=false then 1 else if n<0∧more=false then -1 else 2
theorem Yt5 (w n:Int) (ks:List ah) (vs:List Int) (h:ks.length=vs.length) (hk:bF 0 ks):aD Tryz.prog 213 [.pp [.int .i64 w, .pm ks (ints vs)], .int .i64 n] (.int .i64 (nj n (vs.any fun n=>decide (0<n)) (vs.any fun n=>decide (n<0)))):=by
 refine aD.begin (rs:=[.tmp 4]) (m:=24) 1000 Tryz.func213 rfl rfl rfl (by decide) trivial ?_;have hS:=Ypk w ks vs h hk;generalize (vs.any fun n=>decide (0<n))=a at *
 generalize (vs.any fun n=>decide (n<0))=b at *
 simp only [go_sem];refine aq.bS [] hS (cx _ _ _) ⟨⟨trivial,⟨hk,dq _⟩,trivial⟩,trivial⟩ ?_;rw [je];simp only [ite_self];refine aG.go 1000 ?_;by_cases c1 : 0<n
 ·have c2:¬ n<0:=by omega
  cases b
  ·simp only [go_sem,c1,c2];simp [nj,c1]
  ·simp only [go_sem,c1,c2];simp [nj,c1,c2]
 ·by_cases c2:n<0
  ·cases a
   ·simp only [go_sem,c1,c2];simp [nj,c1,c2]
   ·simp only [go_sem,c1,c2];simp [nj,c1,c2]
  ·simp only [go_sem,c1,c2];simp [nj,c1,c2]
end Go.Proofs
namespace Go.dm
open Go
section
variable {P:Program} {F:Frame→List Frame→Sem Next→World→Value→World→Prop} {σ:ai}
def zY (K:ah→ai→Prop) (n:Nat) (r0:ah) (σ':ai):Prop :=
 ∃ r lW,pT (fun b=>decide (n≤b)) σ' r r0∧iP lW σ'∧lW.length=n∧bD n lW∧r.low 0∧K r lW
theorem cg.tree {g:FuncId} {args:List ah} {K:ah→ai→Prop} (h:ix P F g args σ (zY K σ.length)):ix P F g args σ K:=by
 intro X base β w vs h1 h2 h3 fr cs h4;obtain ⟨r0,σ',β',v,w',⟨r,lW,k1,k2,k3,k4,k5,k6⟩,g1,g2,g3,g4,g5⟩:=h X base β w vs h1 h2 h3 fr cs h4;have hf:=A8 (fun b=>decide (σ.length≤b)) σ';have eJ:∀ b,b < σ.length→(gD (fun b=>decide (σ.length≤b)) 0 σ')[b]? = σ'[b]?:=fun b hb=>by
  rw [Fe,bq];have:decide (σ.length≤b)=false:=by simp;omega
  rw [this];cases σ'[b]?<;>rfl
 generalize zD:gD (fun b=>decide (σ.length≤b)) 0 σ' = lI at hf eJ;have CQ:=g1.pf hf.pf;have pV:=(G1 CQ hf r k1).1 v (g2.mono (Ci hf.pf) (fun _ _ h=>h));have hle:yB lW lI:=fun b x hb=>by
  have mP:b < σ.length:=by have:=(aJ.1 hb).1;omega
  rw [eJ b mP];exact vV k2 b x hb
 have hs:=CQ.drop hle k3 (qR k4);have sm:=cf.drop pV hle k3 (nG (au _) k5);exact ⟨r,lW,_,v,w',k6,hs,sm,g3.drop (vV k2) k3 (ae _),by omega,g5⟩
end
section
variable {P:Program} {lo:Ctx} {Q:ct→St→Prop} {ops:Array Oper}
end
section
variable {P:Program} {σ:ai}
end
section
variable {P:Program}
theorem G0 {B x:bO} {b:Nat}:([some B]:ai)[b]? = some (some x)↔b=0∧B=x:=by
 cases b with
 | zero=>simp
 | succ b=>simp
end
def dR (sz:Nat):ah:=if sz=1 then .undef else .agg (List.replicate sz .undef)
theorem Yjv (sz:Nat):(dR sz).cells.length=sz:=by
 unfold dR;split
 ·rename_i h;rw [h];rfl
 ·simp [ah.cells]
theorem Ydt (sz j:Nat):(dR sz).cells.getD j .undef = .undef:=by
 unfold dR;split
 ·cases j<;>simp [ah.cells]
 ·simp only [ah.cells,cq,dv];split<;>rfl
def tq:ah→ah
 | .oc b off n _ sz=>.os b off n sz
 | a=>a
section
variable {P:Program} {X:Nat→Nat→Prop} {base:Nat} {σ:ai} {β β':Env} {w w':World}
theorem Xd {M:Nat→Nat→Prop} {v:Value} {a:ah} (h:cf w M β v a):cf w M β v (tq a):=by
 cases a with
 | oc b off n c sz=>cases h with
  | tQ a h=>exact .tU a h
  | oc h1 h2 h3=>exact .os h1 h2 h3
 | _=>exact h
theorem A3 {b:Nat} {x y:bO} (hb:bP σ b=some x) (hm:∀ L o,y.mut L o↔x.mut L o) {g o:Nat}:jr (cr σ b y) β g o↔jr σ β g o:=by
 have nN:=kq hb;have bA:b < σ.length:=(aJ.1 nN).1;have gS:cr σ b y = σ.set b (some y):=by unfold cr;rw [if_pos bA]
 constructor
 ·rintro ⟨c,z,L,m1,m2,m3,m4⟩;rw [gS,dz] at m1;split at m1
  ·rename_i e;subst e;cases m1;exact ⟨b,x,L,nN,m2,m3,(hm _ _).1 m4⟩
  ·exact ⟨c,z,L,m1,m2,m3,m4⟩
 ·rintro ⟨c,z,L,m1,m2,m3,m4⟩;by_cases e:b=c
  ·subst e;rw [nN] at m1;cases m1;exact ⟨b,y,L,by rw [gS,dz,if_pos rfl,if_pos bA],m2,m3,(hm _ _).2 m4⟩
  ·exact ⟨c,z,L,by rw [gS,dz,if_neg e];exact m1,m2,m3,m4⟩
theorem E0 {b:Nat} {x y:bO} (hb:bP σ b=some x):(cr σ b y).length = σ.length:=by
 have nN:=kq hb;have bA:b < σ.length:=(aJ.1 nN).1;unfold cr;rw [if_pos bA,bj]
theorem cS.vL (hr:cS X base σ β w) {b:Nat} {x y:bO} (hb:bP σ b=some x) (hm:∀ L o,y.mut L o↔x.mut L o) (jA:∀ M L,β b=some L→gI w M β L x→gI w M β L y):cS X base (cr σ b y) β w:=by
 have nN:=kq hb;have bA:b < σ.length:=(aJ.1 nN).1;have gS:cr σ b y = σ.set b (some y):=by unfold cr;rw [if_pos bA]
 have hM:MT X (cr σ b y) β=MT X σ β:=funext fun g=>funext fun o=>propext (by unfold MT;rw [A3 hb hm]);have eJ:∀ c z,(cr σ b y)[c]? = some (some z)→(c=b∧z=y)∨σ[c]? = some (some z):=fun c z h=>by
  rw [gS,dz] at h;split at h
  ·rename_i e;subst e;cases h;exact .inl ⟨rfl,rfl⟩
  ·exact .inr h
 have vE:∀ c z,(cr σ b y)[c]? = some (some z)→∃ z',σ[c]? = some (some z'):=fun c z h=>by
  rcases eJ c z h with ⟨rfl,rfl⟩ | h
  ·exact ⟨x,nN⟩
  ·exact ⟨z,h⟩
 refine ⟨fun c hc=>hr.oo c (by rw [E0 hb] at hc;exact hc),fun c z hc=>?_,fun c c' z z' L L' h1 h2 h3 h4 h5=>?_,hr.size,hr.qL,hr.gl⟩
 ·rw [hM];rcases eJ c z hc with ⟨rfl,rfl⟩ | h
  ·obtain ⟨L,q1,q2,q3,q4⟩:=hr.cw c x nN;exact ⟨L,q1,q2,q3,jA _ L q1 q4⟩
  ·exact hr.cw c z h
 ·obtain ⟨u,hu⟩:=vE c z h1;obtain ⟨u',wb⟩:=vE c' z' h2;exact hr.inj c c' u u' L L' hu wb h3 h4 h5
theorem Ext.vL {b lo:Nat} {x y:bO} (hb:bP σ b=some x) (hm:∀ L o,y.mut L o↔x.mut L o) {σ':ai} (h:Ext lo (cr σ b y) β w σ' β' w'):Ext lo σ β w σ' β' w' :=
 ⟨h.os,h.tape,h.output,h.size,fun g o v hc hn=>h.cell g o v hc fun hx=>hn ((A3 hb hm).1 hx),fun g hg hn=>h.block g hg fun o hx=>hn o ((A3 hb hm).1 hx),fun g o hx=>(h.jb g o hx).imp (A3 hb hm).1 fun h=>h,h.env⟩
theorem cg.uc {F:Frame→List Frame→Sem Next→World→Value→World→Prop} {g:FuncId} {args pre post:List ah} {K:ah→ai→Prop} {b off n sz fz:Nat} {es:List ah} (ha:args=pre++.os b off n sz :: post) (hb:bP σ b=some (.row es fz)) (hl:es.length=off+n) (hn : 0<n)
  (h:∀ c,n≤c→ix P F g (pre++.oc b off n c sz :: post) (cr σ b (.row (es++List.replicate (c - n) (dR sz)) fz)) K):ix P F g args σ K:=by
 subst ha;intro X base β w vs h1 h2 h3 fr cs h4;have hk:=h3 pre.length (by simp);rw [uC,if_neg (ji _),eV,bm] at hk;rcases hk.sx with ⟨rfl,_⟩ | ⟨L,cap,hL,jT,jH,vq,hv⟩
 ·exact absurd hn (ji _)
 have hm:∀ L o,(bO.row (es++List.replicate (cap - n) (dR sz)) fz).mut L o↔(bO.row es fz).mut L o:=fun _ _=>Iff.rfl;have hM:MT X (cr σ b (.row (es++List.replicate (cap - n) (dR sz)) fz)) β=MT X σ β:=funext fun g=>funext fun o=>propext (by unfold MT;rw [A3 hb hm]);have hr:=h1.vL hb hm (fun M L' hL' jA=>by
  obtain rfl:=aP (hL.symm.trans hL');obtain ⟨c,e,g1,g2,g3,g4,g5⟩:=jA;refine ⟨c,e,g1,g2,by simp only [az,bB];omega,fun i hi=>?_,fun i j hi hj=>?_⟩
  ·rw [uC];split
   ·exact g4 i (by assumption)
   ·simp only [az,bB] at hi;rw [show (List.replicate (cap - n) (dR sz)).getD (i - es.length) ah.undef=dR sz by simp [List.getD,show i - es.length<cap - n by omega],Yjv,jT]
  ·rw [uC];split
   ·exact g5 i j (by assumption) hj
   ·simp only [az,bB] at hi;rw [show (List.replicate (cap - n) (dR sz)).getD (i - es.length) ah.undef=dR sz by simp [List.getD,show i - es.length<cap - n by omega],Ydt];exact .undef _)
 obtain ⟨r,σ',β',v,w',q,g1,g2,g3,g4,g5⟩:=h cap jH X base β w vs hr (by simpa using h2) (fun k hk=>by
  have e7:k<(pre++.os b off n sz :: post).length:=by simpa using hk
  have:=h3 k e7;rw [hM];by_cases e:k=pre.length
  ·subst e;rw [uC,if_neg (ji _),eV,bm] at this ⊢;rw [hv,← jT];exact .oc hL jH vq
  ·rw [uC] at this ⊢;split
   ·rename_i bA;rw [if_pos bA] at this;exact this
   ·rename_i bA;rw [if_neg bA] at this;obtain ⟨m,hm⟩:∃ m,k - pre.length=m+1:=⟨k - pre.length - 1,by omega⟩;rw [hm,bI] at this ⊢;exact this) fr cs h4
 exact ⟨r,σ',β',v,w',q,g1,g2,by rw [E0 hb] at g3;exact g3.vL hb hm,by rw [E0 hb] at g4;exact g4,g5⟩
def zU (K:ah→ai→Prop) (b:Nat) (r:ah) (σ':ai):Prop:=∃ es fz m,bP σ' b=some (.row es fz)∧K (tq r) (cr σ' b (.row (es.take m) fz))
theorem cg.short {F:Frame→List Frame→Sem Next→World→Value→World→Prop} {g:FuncId} {args:List ah} {K:ah→ai→Prop} (b:Nat)
  (h:ix P F g args σ (zU K b)):ix P F g args σ K:=by
 intro X base β w vs h1 h2 h3 fr cs h4;obtain ⟨r,σ',β',v,w',⟨es,fz,m,hb,q⟩,g1,g2,g3,g4,g5⟩:=h X base β w vs h1 h2 h3 fr cs h4;have hm:∀ L o,(bO.row (es.take m) fz).mut L o↔(bO.row es fz).mut L o:=fun _ _=>Iff.rfl;have hM:MT X (cr σ' b (.row (es.take m) fz)) β'=MT X σ' β':=funext fun g=>funext fun o=>propext (by unfold MT;rw [A3 hb hm]);refine ⟨tq r,_,β',v,w',q,g1.vL hb hm (fun M L hL jA=>?_),by rw [hM];exact Xd g2,⟨g3.os,g3.tape,g3.output,g3.size,g3.cell,g3.block,fun g o hx=>g3.jb g o ((A3 hb hm).1 hx),g3.env⟩,by rw [E0 hb];exact g4,g5⟩;obtain ⟨c,e,k1,k2,k3,k4,k5⟩:=jA;have hg:∀ i,i<(es.take m).length→(es.take m).getD i ah.undef=es.getD i .undef:=fun i hi=>by
  rw [cA] at hi;simp [List.getD,show i<m by omega]
 have hl:(es.take m).length≤es.length:=by rw [cA];omega
 exact ⟨c,e,k1,k2,by omega,fun i hi=>by rw [hg i hi];exact k4 i (by omega),fun i j hi hj=>by rw [hg i hi];exact k5 i j (by omega) hj⟩
theorem cg.o9 {g:FuncId} {fn:Func} {c:Code} {args:List ah} {K:ah→ai→Prop} {m:Nat} {rs:List ResultVar} (n:Nat) (hf:P.funcs[g]? = some fn) (hb:fn.body=some c) (hr:fn.results.toList=rs) (hm:fn.ntmps - args.length=m)
  (ff : (fn.name == "runtime.NumGoroutine") = false)
  (h:eF P ⟨σ.length,none⟩ (rq P rs (na K σ.length)) n [.code c] .normal (args++List.replicate m .undef) σ):cg P g args σ K:=cg.drop (cg.start n hf hb hr hm ff h)
theorem J9 {K:ah→ai→Prop} {b:Nat} {r:ah} {σ':ai}:zU K b r σ' = ∃ es fz m,bP σ' b=some (.row es fz)∧K (tq r) (cr σ' b (.row (es.take m) fz)):=rfl
end
end Go.dm
