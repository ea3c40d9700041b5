/- Part 30 of my own framework and of the walks of functions: AcsE. -/
import Derived.Test.YtfjbdamcmiglgaaGreatOwn29
import Derived.ChangeArms
import Derived.ProofKit
import Derived.SizedLaws
abbrev pY:=@Classical.choose_spec
abbrev fJ:=@List.drop_eq_nil_of_le
abbrev di:=@List.drop_zero
abbrev gC:=@List.mem_append_left
abbrev cB:=@List.mem_cons_of_mem
abbrev mO:=@List.take_left
abbrev bN:=@Nat.le_add_right
set_option linter.unusedVariables false
set_option linter.unusedSectionVars false
set_option linter.unusedSimpArgs false
namespace Go.c8
open Go
def iQ (P:Program) (t:TypeId):Bool :=
 match P.underlying t with
 | some u=>qu u
 | none=>false
def mw (P:Program):Nat→TypeId→List ae→Prop
 | 0,_,_=>False
 | n+1,t,cj=>match P.underlying t with
  | some .bool=>∃ b,cj=[.bool b]
  | some (.int k)=>∃ i,cj=[.int k i]∧(Lit.int k i).wf=true
  | some .string=>∃ s:ByteArray,cj=[.str s]∧s.size≤reachBytes
  | some (.slice e)=>∃ es,cj=[.ps (P.cellsOf e) es]∧(es.length≤maxLen∧es.length*P.bytesOf e≤reachBytes)∧∀ x∈es,cJ x=iQ P e∧mw P n e x.cells
  | some (.struct fs)=>cj.length=P.cellsOf t∧∀ f∈fs.toList,mw P n f.type ((cj.drop f.offset).take (P.cellsOf f.type))
  | _=>True
def mV (P:Program):List Field→Nat→Nat→Bool
 | [],o,n=>o==n
 | f :: fs,o,n=>f.offset==o&&mV P fs (o+P.cellsOf f.type) n
def mU (P:Program) (S:List TypeId):Bool:=S.all fun t=>match P.underlying t with
 | some (.struct fs)=>mV P fs.toList 0 (P.cellsOf t)&&fs.toList.all fun f=>S.contains f.type
 | some (.slice e)=>S.contains e&&decide (0<P.cellsOf e)&&(iQ P e||P.cellsOf e==1)
 | _=>true
def rz:Nat→Nat→Prop:=fun _ _=>False
def r_:Env:=fun _=>none
section
variable {P:Program} {w:World} {H:Type} {enc:TypeId×Value→H} {base:Nat} {spare:Nat→Bool} {held:Bool}
theorem ES {a:Addr} {n:Nat} {cs:List Value} (h:w.cells? base a n=some cs):cs.length=n∧∀ i,i<n→w.cell? (a.add i)=some (cs.getD i undef):=by
 unfold World.cells? at h
 split at h
 ·have hl:=mapM_some_length h
  refine ⟨by simpa using hl,fun i hi=>?_⟩
  have:=mapM_some_get h i i (by simp [hi])
  rw [this]
  have:i<cs.length:=by simp at hl;omega
  simp [List.getD,this]
 ·cases h
theorem RF {x:ae} (h:cJ x=false):x.cells=[x]:=by cases x<;>simp_all [ae.cells,cJ]
theorem Zzn {cs:List Value}:∃ cj:List ae,cj.length=cs.length∧(∀ k,k<cs.length→bR w rz r_ (cs.getD k undef) (cj.getD k .undef))∧∀ x∈cj,x = .undef :=
 ⟨List.replicate cs.length .undef,by simp,fun k hk=>by simp [List.getD,hk];exact .undef _,fun x hx=>by simp at hx;exact hx.2⟩
theorem R3:∀ (fs:List Field) (o N:Nat),mV P fs o N=true→o≤N
 | [],o,N,h=>by simp [mV] at h;omega
 | f :: fs,o,N,h=>by
  simp only [mV,aD] at h
  have:=R3 fs _ N h.2
  omega
theorem Qr {cs:List Value} {n N:Nat} (hN:cs.length=N):∀ (fs:List Field) (o:Nat),mV P fs o N=true →
  (∀ f∈fs, ∃ cj:List ae,cj.length=((cs.drop f.offset).take (P.cellsOf f.type)).length∧(∀ k,k<cj.length→bR w rz r_ (((cs.drop f.offset).take (P.cellsOf f.type)).getD k undef) (cj.getD k .undef))∧mw P n f.type cj) →
  ∃ cj:List ae,cj.length=N - o∧(∀ k,k<cj.length→bR w rz r_ (cs.getD (o+k) undef) (cj.getD k .undef))∧∀ f∈fs,o≤f.offset∧mw P n f.type ((cj.drop (f.offset - o)).take (P.cellsOf f.type))
 | [],o,h,_=>by
  simp [mV] at h
  exact ⟨[],by simp;omega,fun k hk=>by simp at hk,fun f hf=>by simp at hf⟩
 | f :: fs,o,h,hf=>by
  simp only [mV,aD,beq_iff_eq] at h
  obtain ⟨rfl,h⟩:=h
  have hle:=R3 fs _ N h
  obtain ⟨FF,a1,a2,a3⟩:=hf f (by simp)
  obtain ⟨as2,b1,b2,b3⟩:=Qr hN fs _ h fun g hg=>hf g (by simp [hg])
  have sZ:FF.length=P.cellsOf f.type:=by rw [a1];simp;omega
  refine ⟨FF++as2,by simp;omega,fun k hk=>?_,fun g hg=>?_⟩
  ·rw [sS]
   split
   ·rename_i bD
    have:=a2 k bD
    have e:((cs.drop f.offset).take (P.cellsOf f.type)).getD k undef=cs.getD (f.offset+k) undef:=by
     simp [List.getD,eZ,show k<P.cellsOf f.type by omega]
    rw [e] at this;exact this
   ·rename_i u_
    have:=b2 (k - FF.length) (by simp at hk;omega)
    rw [show f.offset+P.cellsOf f.type+(k - FF.length)=f.offset+k by omega] at this
    exact this
  ·rcases aQ.1 hg with rfl | hg
   ·refine ⟨ah _,?_⟩
    rw [d_,di,← sZ,mO];exact a3
   ·obtain ⟨c1,c2⟩:=b3 g hg
    refine ⟨by omega,?_⟩
    rw [List.drop_append,fJ (by omega),bh,show g.offset - f.offset - FF.length=g.offset - (f.offset+P.cellsOf f.type) by omega]
    exact c2
theorem Zu2 {e:TypeId} {l:List (DataW H)} {d:DataW H} (h:d∈l):∀ n∈d.weights P e,n∈DataW.weightsAll P e l:=by
 induction l with
 | nil=>cases h
 | cons x l ih =>
  intro n hn
  simp only [DataW.weightsAll,aW]
  rcases aQ.1 h with rfl | h
  ·exact .inl hn
  ·exact .inr (ih h n hn)
theorem W9 {S:List TypeId} (hC:mU P S=true):∀ (fuel:Nat) (t:TypeId) (cs:List Value) (x:DataW H×List MemPlace),t∈S→DataW.trod enc P w base spare held fuel t cs=some x→(∀ n∈x.1.weights P t,n≤reachBytes) →
  ∃ cj:List ae,cj.length=cs.length∧(∀ k,k<cj.length→bR w rz r_ (cs.getD k undef) (cj.getD k .undef))∧mw P fuel t cj∧(iQ P t=false→cj.length=1→∃ y,cj=[y]∧cJ y=false):=by
 intro fuel
 induction fuel with
 | zero=>intro t cs x _ h;simp [DataW.trod] at h
 | succ n ih =>
  intro t cs x hS h vZ
  have CA:=(bp.1 hC) t hS
  have one:∀ (v:Value) (y:ae),cs=[v]→bR w rz r_ v y→mw P (n+1) t [y]→cJ y=false→∃ cj:List ae,cj.length=cs.length∧(∀ k,k<cj.length→bR w rz r_ (cs.getD k undef) (cj.getD k .undef))∧mw P (n+1) t cj∧(iQ P t=false→cj.length=1→∃ y,cj=[y]∧cJ y=false):=by
   rintro v y rfl h1 h2 h3
   refine ⟨[y],rfl,fun k hk=>?_,h2,fun _ _=>⟨y,rfl,h3⟩⟩
   have:k=0:=by simpa using hk
   subst this;exact h1
  have other:(∀ cj,mw P (n+1) t cj)→∃ cj:List ae,cj.length=cs.length∧(∀ k,k<cj.length→bR w rz r_ (cs.getD k undef) (cj.getD k .undef))∧mw P (n+1) t cj∧(iQ P t=false→cj.length=1→∃ y,cj=[y]∧cJ y=false):=by
   intro hT
   obtain ⟨cj,h1,h2,h3⟩:=Zzn (w:=w) (cs:=cs)
   refine ⟨cj,h1,fun k hk=>h2 k (by omega),hT cj,fun _ hl=>?_⟩
   match cj,hl with
   | [y],_=>exact ⟨y,rfl,by rw [h3 y (by simp)];rfl⟩
  cases hu:P.underlying t with
  | none=>exact other fun cj=>by simp [mw,hu]
  | some u =>
  cases u with
  | bool =>
   obtain ⟨b,rfl,_⟩:=DataW.trod_bool hu h
   exact one _ (.bool b) rfl (.bool b) (by simp [mw,hu]) rfl
  | int kd =>
   obtain ⟨i,rfl,_,hw⟩:=DataW.trod_int hu h
   exact one _ (.int kd i) rfl (.int kd i) (by simp [mw,hu,hw]) rfl
  | string =>
   obtain ⟨s,rfl,rfl,hs⟩:=DataW.trod_string hu h
   have GG:s.size≤reachBytes:=by
    have:=vZ s.data.toList.length (by simp [DataW.weights])
    rw [bA] at this;exact this
   exact one _ (.str s) rfl (.str s) (by simp [mw,hu,GG]) rfl
  | slice e =>
   rcases DataW.trod_slice hu h with ⟨rfl,_⟩ | ⟨a,len,cap,elems,rest,m,hm,rfl,yt,_,hl,jd,hlen,iR,_,_⟩
   ·refine one _ (.ps (P.cellsOf e) []) rfl (bR.ps (es:=[]) (fun _ _=>undef) (by simp) (fun i hi=>absurd hi (by simp)) (fun i j hi=>absurd hi (by simp)) (fun h0=>absurd h0 (by simp)) (fun i j hi=>absurd hi (by simp))) ?_ rfl
    simp [mw,hu]
   ·obtain rfl:n=m:=by omega
    subst yt
    simp only [DataW.weights,hu,ak] at vZ
    rw [hu] at CA
    simp only [aD,decide_eq_true_eq,bY,beq_iff_eq] at CA
    obtain ⟨⟨Mv,nE⟩,qa⟩:=CA
    have Mv:e∈S:=by simpa using Mv
    have key:∀ i,i<len→∃ (ec:List Value) (cj:List ae),w.cells? base (a.add (i*P.cellsOf e)) (P.cellsOf e)=some ec∧cj.length=ec.length∧(∀ k,k<cj.length→bR w rz r_ (ec.getD k undef) (cj.getD k .undef))∧mw P n e cj∧(iQ P e=false→cj.length=1→∃ y,cj=[y]∧cJ y=false):=by
     intro i hi
     have h1:=iR i hi
     rw [aA (by omega)] at h1
     obtain ⟨ec,h2,h3⟩:=au.1 h1
     obtain ⟨cj,q1,q2,q3,q4⟩:=ih e ec _ Mv h3 fun n hn=>vZ n (cB _ (gC _ (Zu2 (cn.2 ⟨_,aE _,rfl⟩) n hn)))
     exact ⟨ec,cj,h2,q1,q2,q3,q4⟩
    have BF : 0<len→a.spot=none:=fun h0=>by
     obtain ⟨ec,cj,q1,_⟩:=key 0 h0
     have:=(ES q1).2 0 nE
     simp only [pb,Addr.add,if_true] at this
     simp only [World.cell?] at this
     split at this
     ·cases hs:a.spot with
      | none=>rfl
      | some z=>rw [hs] at this;simp at this
     ·cases this
    let ec:Nat→List Value:=fun i=>if h:i<len then Classical.choose (key i h) else []
    let el:Nat→List ae:=fun i=>if h:i<len then Classical.choose (pY (key i h)) else []
    have hk:∀ i,i<len→w.cells? base (a.add (i*P.cellsOf e)) (P.cellsOf e)=some (ec i)∧(el i).length=(ec i).length∧(∀ k,k<(el i).length→bR w rz r_ ((ec i).getD k undef) ((el i).getD k .undef))∧mw P n e (el i)∧(iQ P e=false→(el i).length=1→∃ y,el i=[y]∧cJ y=false):=by
     intro i hi
     simp only [ec,el,dif_pos hi]
     exact pY (pY (key i hi))
    generalize ec=ec at hk
    generalize el=el at hk
    let es:List ae:=(List.range len).map fun i=>if iQ P e=true then .agg (el i) else (el i).headD .undef
    have ow:es.length=len:=by simp [es]
    have eE:∀ i,i<len→(es.getD i .undef).cells=el i∧cJ (es.getD i .undef)=iQ P e:=by
     intro i hi
     have e1:es.getD i .undef=if iQ P e=true then .agg (el i) else (el i).headD .undef:=by simp [es,List.getD,hi]
     rw [e1]
     obtain ⟨q1,q2,_,_,q5⟩:=hk i hi
     have Gn:=(ES q1).1
     cases ha:iQ P e with
     | true=>exact ⟨rfl,rfl⟩
     | false =>
      rw [ha] at qa
      obtain ⟨y,hy,zq⟩:=q5 ha (by rw [q2,Gn];simpa using qa)
      rw [hy]
      simp only [a8,if_false,List.headD_cons]
      exact ⟨RF zq,zq⟩
    have qN:bR w rz r_ (.slice (some a) es.length cap) (.ps (P.cellsOf e) es):=by
     refine bR.ps (fun i j=>(ec i).getD j undef) (by omega) (fun i hi=>?_) (fun i j hi hj=>?_) (fun h0=>⟨a.block,a.off,?_⟩) (fun i j hi hj=>?_)
     ·rw [(eE i (by omega)).1,(hk i (by omega)).2.1];exact (ES (hk i (by omega)).1).1
     ·have zo:=BF (by omega)
      obtain ⟨q1,_⟩:=hk i (by omega)
      have hc:=(ES q1).2 j hj
      refine ⟨a.block,a.off,?_,?_,fun h=>h⟩
      ·cases a;simp at zo;subst zo;rfl
      ·rw [← hc]
       cases a with
       | mk g o sp =>
        simp only at zo;subst zo
        simp only [Addr.add]
        split<;>split<;>simp_all<;>omega
     ·have zo:=BF (by omega)
      cases a;simp at zo;subst zo;rfl
     ·obtain ⟨_,q2,q3,_⟩:=hk i (by omega)
      rw [(eE i (by omega)).1]
      exact q3 j (by rw [q2,(ES (hk i (by omega)).1).1];exact hj)
    rw [ow] at qN
    refine one _ _ rfl qN ?_ rfl
    simp only [mw,hu]
    refine ⟨es,rfl,⟨by omega,?_⟩,fun x hx=>?_⟩
    ·rw [ow,← hlen]
     exact cP (aX _ (bN _ _)) (vZ _ List.mem_cons_self)
    obtain ⟨i,hi,e1⟩:=mo hx
    have:es.getD i .undef=x:=by simp [List.getD,hi,e1]
    rw [← this,(eE i (by omega)).1]
    exact ⟨(eE i (by omega)).2,(hk i (by omega)).2.2.2.1⟩
  | struct fs =>
   obtain ⟨xs,m,hm,rfl,hl,hxl,hx⟩:=DataW.trod_struct hu h
   obtain rfl:n=m:=by omega
   simp only [DataW.weights,hu] at vZ
   rw [hu] at CA
   simp only [aD] at CA
   obtain ⟨cj,a1,a2,a3⟩:=Qr (w:=w) (n:=n) hl fs.toList 0 CA.1 fun f hf=>by
    obtain ⟨i,hi,e⟩:=mo hf
    have h1:=hx i f (by simp at hi;simp [hi];simpa using e)
    rw [aA (by simp at hi;omega)] at h1
    obtain ⟨cj,q1,q2,q3,_⟩:=ih f.type _ _ (by simpa using (bp.1 CA.2) f hf) h1 fun n hn=>vZ n (DataW.weights_mem_each (j:=i) (by rw [cb,aA hi,e];rfl) (by rw [cb,aA (by simp at hi;omega)];rfl) n hn)
    exact ⟨cj,q1,q2,q3⟩
   refine ⟨cj,by omega,fun k hk=>by simpa using a2 k hk,?_,fun ha=>by simp [iQ,hu,qu] at ha⟩
   simp only [mw,hu]
   exact ⟨by omega,fun f hf=>by simpa using (a3 f hf).2⟩
  | _=>exact other fun cj=>by simp [mw,hu]
end
end Go.c8
