/- Part 30 of my own framework and of the walks of functions: AcsE. -/
import Derived.Test.YtfjbdamcmiglgaaGreatOwn29
import Derived.ChangeArms
import Derived.ProofKit
import Derived.SizedLaws
abbrev p8:=@Classical.choose_spec
abbrev fJ:=@List.drop_eq_nil_of_le
abbrev dk:=@List.drop_zero
abbrev gA:=@List.mem_append_left
abbrev cq:=@List.mem_cons_of_mem
abbrev mN:=@List.take_left
abbrev bN:=@Nat.le_add_right
set_option linter.unusedVariables false
set_option linter.unusedSectionVars false
set_option linter.unusedSimpArgs false
namespace Go.cV
open Go
def iR (P:Program) (t:TypeId):Bool :=
 match P.underlying t with
 | some u=>qD u
 | none=>false
def mq (P:Program):Nat→TypeId→List ae→Prop
 | 0,_,_=>False
 | n+1,t,ck=>match P.underlying t with
  | some .bool=>∃ b,ck=[.bool b]
  | some (.int k)=>∃ i,ck=[.int k i]∧(Lit.int k i).wf=true
  | some .string=>∃ s:ByteArray,ck=[.str s]∧s.size≤reachBytes
  | some (.slice e)=>∃ es,ck=[.ps (P.cellsOf e) es]∧(es.length≤maxLen∧es.length*P.bytesOf e≤reachBytes)∧∀ x∈es,cL x=iR P e∧mq P n e x.cells
  | some (.struct fs)=>ck.length=P.cellsOf t∧∀ f∈fs.toList,mq P n f.type ((ck.drop f.offset).take (P.cellsOf f.type))
  | _=>True
def mU (P:Program):List Field→Nat→Nat→Bool
 | [],o,n=>o==n
 | f :: fs,o,n=>f.offset==o&&mU P fs (o+P.cellsOf f.type) n
def mS (P:Program) (S:List TypeId):Bool:=S.all fun t=>match P.underlying t with
 | some (.struct fs)=>mU P fs.toList 0 (P.cellsOf t)&&fs.toList.all fun f=>S.contains f.type
 | some (.slice e)=>S.contains e&&decide (0<P.cellsOf e)&&(iR P e||P.cellsOf e==1)
 | _=>true
def rJ:Nat→Nat→Prop:=fun _ _=>False
def sr:Env:=fun _=>none
section
variable {P:Program} {w:World} {H:Type} {enc:TypeId×Value→H} {base:Nat} {spare:Nat→Bool} {held:Bool}
theorem E0 {a:Addr} {n:Nat} {cs:List Value} (h:w.cells? base a n=some cs):cs.length=n∧∀ i,i<n→w.cell? (a.add i)=some (cs.getD i undef):=by
 unfold World.cells? at h
 split at h
 ·have hl:=mapM_some_length h
  refine ⟨by simpa using hl,fun i hi=>?_⟩
  have:=mapM_some_get h i i (by simp [hi])
  rw [this]
  have:i<cs.length:=by simp at hl;omega
  simp [List.getD,this]
 ·cases h
theorem Sx {x:ae} (h:cL x=false):x.cells=[x]:=by cases x<;>simp_all [ae.cells,cL]
theorem Zzn {cs:List Value}:∃ ck:List ae,ck.length=cs.length∧(∀ k,k<cs.length→bR w rJ sr (cs.getD k undef) (ck.getD k .undef))∧∀ x∈ck,x = .undef :=
 ⟨List.replicate cs.length .undef,by simp,fun k hk=>by simp [List.getD,hk];exact .undef _,fun x hx=>by simp at hx;exact hx.2⟩
theorem SW:∀ (fs:List Field) (o N:Nat),mU P fs o N=true→o≤N
 | [],o,N,h=>by simp [mU] at h;omega
 | f :: fs,o,N,h=>by
  simp only [mU,aD] at h
  have:=SW fs _ N h.2
  omega
theorem Qo {cs:List Value} {n N:Nat} (hN:cs.length=N):∀ (fs:List Field) (o:Nat),mU P fs o N=true →
  (∀ f∈fs, ∃ ck:List ae,ck.length=((cs.drop f.offset).take (P.cellsOf f.type)).length∧(∀ k,k<ck.length→bR w rJ sr (((cs.drop f.offset).take (P.cellsOf f.type)).getD k undef) (ck.getD k .undef))∧mq P n f.type ck) →
  ∃ ck:List ae,ck.length=N - o∧(∀ k,k<ck.length→bR w rJ sr (cs.getD (o+k) undef) (ck.getD k .undef))∧∀ f∈fs,o≤f.offset∧mq P n f.type ((ck.drop (f.offset - o)).take (P.cellsOf f.type))
 | [],o,h,_=>by
  simp [mU] at h
  exact ⟨[],by simp;omega,fun k hk=>by simp at hk,fun f hf=>by simp at hf⟩
 | f :: fs,o,h,hf=>by
  simp only [mU,aD,beq_iff_eq] at h
  obtain ⟨rfl,h⟩:=h
  have hle:=SW fs _ N h
  obtain ⟨FM,a1,a2,a3⟩:=hf f (by simp)
  obtain ⟨as2,b1,b2,b3⟩:=Qo hN fs _ h fun g hg=>hf g (by simp [hg])
  have tv:FM.length=P.cellsOf f.type:=by rw [a1];simp;omega
  refine ⟨FM++as2,by simp;omega,fun k hk=>?_,fun g hg=>?_⟩
  ·rw [ta]
   split
   ·rename_i bD
    have:=a2 k bD
    have e:((cs.drop f.offset).take (P.cellsOf f.type)).getD k undef=cs.getD (f.offset+k) undef:=by
     simp [List.getD,e9,show k<P.cellsOf f.type by omega]
    rw [e] at this;exact this
   ·rename_i uU
    have:=b2 (k - FM.length) (by simp at hk;omega)
    rw [show f.offset+P.cellsOf f.type+(k - FM.length)=f.offset+k by omega] at this
    exact this
  ·rcases aP.1 hg with rfl | hg
   ·refine ⟨ah _,?_⟩
    rw [ei,dk,← tv,mN];exact a3
   ·obtain ⟨c1,c2⟩:=b3 g hg
    refine ⟨by omega,?_⟩
    rw [List.drop_append,fJ (by omega),bf,show g.offset - f.offset - FM.length=g.offset - (f.offset+P.cellsOf f.type) by omega]
    exact c2
theorem Zu5 {e:TypeId} {l:List (DataW H)} {d:DataW H} (h:d∈l):∀ n∈d.weights P e,n∈DataW.weightsAll P e l:=by
 induction l with
 | nil=>cases h
 | cons x l ih =>
  intro n hn
  simp only [DataW.weightsAll,aX]
  rcases aP.1 h with rfl | h
  ·exact .inl hn
  ·exact .inr (ih h n hn)
theorem Y4 {S:List TypeId} (hC:mS P S=true):∀ (fuel:Nat) (t:TypeId) (cs:List Value) (x:DataW H×List MemPlace),t∈S→DataW.trod enc P w base spare held fuel t cs=some x→(∀ n∈x.1.weights P t,n≤reachBytes) →
  ∃ ck:List ae,ck.length=cs.length∧(∀ k,k<ck.length→bR w rJ sr (cs.getD k undef) (ck.getD k .undef))∧mq P fuel t ck∧(iR P t=false→ck.length=1→∃ y,ck=[y]∧cL y=false):=by
 intro fuel
 induction fuel with
 | zero=>intro t cs x _ h;simp [DataW.trod] at h
 | succ n ih =>
  intro t cs x hS h wi
  have CL:=(bp.1 hC) t hS
  have one:∀ (v:Value) (y:ae),cs=[v]→bR w rJ sr v y→mq P (n+1) t [y]→cL y=false→∃ ck:List ae,ck.length=cs.length∧(∀ k,k<ck.length→bR w rJ sr (cs.getD k undef) (ck.getD k .undef))∧mq P (n+1) t ck∧(iR P t=false→ck.length=1→∃ y,ck=[y]∧cL y=false):=by
   rintro v y rfl h1 h2 h3
   refine ⟨[y],rfl,fun k hk=>?_,h2,fun _ _=>⟨y,rfl,h3⟩⟩
   have:k=0:=by simpa using hk
   subst this;exact h1
  have other:(∀ ck,mq P (n+1) t ck)→∃ ck:List ae,ck.length=cs.length∧(∀ k,k<ck.length→bR w rJ sr (cs.getD k undef) (ck.getD k .undef))∧mq P (n+1) t ck∧(iR P t=false→ck.length=1→∃ y,ck=[y]∧cL y=false):=by
   intro hT
   obtain ⟨ck,h1,h2,h3⟩:=Zzn (w:=w) (cs:=cs)
   refine ⟨ck,h1,fun k hk=>h2 k (by omega),hT ck,fun _ hl=>?_⟩
   match ck,hl with
   | [y],_=>exact ⟨y,rfl,by rw [h3 y (by simp)];rfl⟩
  cases hu:P.underlying t with
  | none=>exact other fun ck=>by simp [mq,hu]
  | some u =>
  cases u with
  | bool =>
   obtain ⟨b,rfl,_⟩:=DataW.trod_bool hu h
   exact one _ (.bool b) rfl (.bool b) (by simp [mq,hu]) rfl
  | int kd =>
   obtain ⟨i,rfl,_,hw⟩:=DataW.trod_int hu h
   exact one _ (.int kd i) rfl (.int kd i) (by simp [mq,hu,hw]) rfl
  | string =>
   obtain ⟨s,rfl,rfl,hs⟩:=DataW.trod_string hu h
   have GM:s.size≤reachBytes:=by
    have:=wi s.data.toList.length (by simp [DataW.weights])
    rw [bA] at this;exact this
   exact one _ (.str s) rfl (.str s) (by simp [mq,hu,GM]) rfl
  | slice e =>
   rcases DataW.trod_slice hu h with ⟨rfl,_⟩ | ⟨a,len,cap,elems,rest,m,hm,rfl,yy,_,hl,jf,hlen,iS,_,_⟩
   ·refine one _ (.ps (P.cellsOf e) []) rfl (bR.ps (es:=[]) (fun _ _=>undef) (by simp) (fun i hi=>absurd hi (by simp)) (fun i j hi=>absurd hi (by simp)) (fun h0=>absurd h0 (by simp)) (fun i j hi=>absurd hi (by simp))) ?_ rfl
    simp [mq,hu]
   ·obtain rfl:n=m:=by omega
    subst yy
    simp only [DataW.weights,hu,ao] at wi
    rw [hu] at CL
    simp only [aD,decide_eq_true_eq,b9,beq_iff_eq] at CL
    obtain ⟨⟨MJ,nG⟩,qi⟩:=CL
    have MJ:e∈S:=by simpa using MJ
    have key:∀ i,i<len→∃ (ec:List Value) (ck:List ae),w.cells? base (a.add (i*P.cellsOf e)) (P.cellsOf e)=some ec∧ck.length=ec.length∧(∀ k,k<ck.length→bR w rJ sr (ec.getD k undef) (ck.getD k .undef))∧mq P n e ck∧(iR P e=false→ck.length=1→∃ y,ck=[y]∧cL y=false):=by
     intro i hi
     have h1:=iS i hi
     rw [aA (by omega)] at h1
     obtain ⟨ec,h2,h3⟩:=ax.1 h1
     obtain ⟨ck,q1,q2,q3,q4⟩:=ih e ec _ MJ h3 fun n hn=>wi n (cq _ (gA _ (Zu5 (bW.2 ⟨_,aF _,rfl⟩) n hn)))
     exact ⟨ec,ck,h2,q1,q2,q3,q4⟩
    have BL : 0<len→a.spot=none:=fun h0=>by
     obtain ⟨ec,ck,q1,_⟩:=key 0 h0
     have:=(E0 q1).2 0 nG
     simp only [pf,Addr.add,if_true] at this
     simp only [World.cell?] at this
     split at this
     ·cases hs:a.spot with
      | none=>rfl
      | some z=>rw [hs] at this;simp at this
     ·cases this
    let ec:Nat→List Value:=fun i=>if h:i<len then Classical.choose (key i h) else []
    let el:Nat→List ae:=fun i=>if h:i<len then Classical.choose (p8 (key i h)) else []
    have hk:∀ i,i<len→w.cells? base (a.add (i*P.cellsOf e)) (P.cellsOf e)=some (ec i)∧(el i).length=(ec i).length∧(∀ k,k<(el i).length→bR w rJ sr ((ec i).getD k undef) ((el i).getD k .undef))∧mq P n e (el i)∧(iR P e=false→(el i).length=1→∃ y,el i=[y]∧cL y=false):=by
     intro i hi
     simp only [ec,el,dif_pos hi]
     exact p8 (p8 (key i hi))
    generalize ec=ec at hk
    generalize el=el at hk
    let es:List ae:=(List.range len).map fun i=>if iR P e=true then .agg (el i) else (el i).headD .undef
    have oB:es.length=len:=by simp [es]
    have eH:∀ i,i<len→(es.getD i .undef).cells=el i∧cL (es.getD i .undef)=iR P e:=by
     intro i hi
     have e1:es.getD i .undef=if iR P e=true then .agg (el i) else (el i).headD .undef:=by simp [es,List.getD,hi]
     rw [e1]
     obtain ⟨q1,q2,_,_,q5⟩:=hk i hi
     have Gu:=(E0 q1).1
     cases ha:iR P e with
     | true=>exact ⟨rfl,rfl⟩
     | false =>
      rw [ha] at qi
      obtain ⟨y,hy,zw⟩:=q5 ha (by rw [q2,Gu];simpa using qi)
      rw [hy]
      simp only [a8,if_false,List.headD_cons]
      exact ⟨Sx zw,zw⟩
    have qY:bR w rJ sr (.slice (some a) es.length cap) (.ps (P.cellsOf e) es):=by
     refine bR.ps (fun i j=>(ec i).getD j undef) (by omega) (fun i hi=>?_) (fun i j hi hj=>?_) (fun h0=>⟨a.block,a.off,?_⟩) (fun i j hi hj=>?_)
     ·rw [(eH i (by omega)).1,(hk i (by omega)).2.1];exact (E0 (hk i (by omega)).1).1
     ·have zu:=BL (by omega)
      obtain ⟨q1,_⟩:=hk i (by omega)
      have hc:=(E0 q1).2 j hj
      refine ⟨a.block,a.off,?_,?_,fun h=>h⟩
      ·cases a;simp at zu;subst zu;rfl
      ·rw [← hc]
       cases a with
       | mk g o sp =>
        simp only at zu;subst zu
        simp only [Addr.add]
        split<;>split<;>simp_all<;>omega
     ·have zu:=BL (by omega)
      cases a;simp at zu;subst zu;rfl
     ·obtain ⟨_,q2,q3,_⟩:=hk i (by omega)
      rw [(eH i (by omega)).1]
      exact q3 j (by rw [q2,(E0 (hk i (by omega)).1).1];exact hj)
    rw [oB] at qY
    refine one _ _ rfl qY ?_ rfl
    simp only [mq,hu]
    refine ⟨es,rfl,⟨by omega,?_⟩,fun x hx=>?_⟩
    ·rw [oB,← hlen]
     exact cR (aW _ (bN _ _)) (wi _ List.mem_cons_self)
    obtain ⟨i,hi,e1⟩:=ml hx
    have:es.getD i .undef=x:=by simp [List.getD,hi,e1]
    rw [← this,(eH i (by omega)).1]
    exact ⟨(eH i (by omega)).2,(hk i (by omega)).2.2.2.1⟩
  | struct fs =>
   obtain ⟨xs,m,hm,rfl,hl,hxl,hx⟩:=DataW.trod_struct hu h
   obtain rfl:n=m:=by omega
   simp only [DataW.weights,hu] at wi
   rw [hu] at CL
   simp only [aD] at CL
   obtain ⟨ck,a1,a2,a3⟩:=Qo (w:=w) (n:=n) hl fs.toList 0 CL.1 fun f hf=>by
    obtain ⟨i,hi,e⟩:=ml hf
    have h1:=hx i f (by simp at hi;simp [hi];simpa using e)
    rw [aA (by simp at hi;omega)] at h1
    obtain ⟨ck,q1,q2,q3,_⟩:=ih f.type _ _ (by simpa using (bp.1 CL.2) f hf) h1 fun n hn=>wi n (DataW.weights_mem_each (j:=i) (by rw [cd,aA hi,e];rfl) (by rw [cd,aA (by simp at hi;omega)];rfl) n hn)
    exact ⟨ck,q1,q2,q3⟩
   refine ⟨ck,by omega,fun k hk=>by simpa using a2 k hk,?_,fun ha=>by simp [iR,hu,qD] at ha⟩
   simp only [mq,hu]
   exact ⟨by omega,fun f hf=>by simpa using (a3 f hf).2⟩
  | _=>exact other fun ck=>by simp [mq,hu]
end
end Go.cV
