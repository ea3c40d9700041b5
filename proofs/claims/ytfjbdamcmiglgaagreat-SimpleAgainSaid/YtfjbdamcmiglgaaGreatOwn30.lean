/- Part 30 of my own framework and of the walks of functions: AcsE. -/
import Derived.Test.YtfjbdamcmiglgaaGreatOwn29
import Derived.ChangeArms
import Derived.ProofKit
import Derived.SizedLaws
abbrev lD:=@Classical.choose_spec
abbrev fW:=@List.drop_eq_nil_of_le
abbrev dn:=@List.drop_zero
abbrev gN:=@List.mem_append_left
abbrev cu:=@List.mem_cons_of_mem
abbrev m9:=@List.take_left
abbrev bO:=@Nat.le_add_right
set_option linter.unusedVariables false
set_option linter.unusedSectionVars false
set_option linter.unusedSimpArgs false
namespace Go.c8
open Go
def jc (P:Program) (t:TypeId):Bool :=
 match P.underlying t with
 | some u=>qM u
 | none=>false
def mH (P:Program):Nat→TypeId→List ae→Prop
 | 0,_,_=>False
 | n+1,t,cm=>match P.underlying t with
  | some .bool=>∃ b,cm=[.bool b]
  | some (.int k)=>∃ i,cm=[.int k i]∧(Lit.int k i).wf=true
  | some .string=>∃ s:ByteArray,cm=[.str s]∧s.size≤reachBytes
  | some (.slice e)=>∃ es,cm=[.ps (P.cellsOf e) es]∧(es.length≤maxLen∧es.length*P.bytesOf e≤reachBytes)∧∀ x∈es,cN x=jc P e∧mH P n e x.cells
  | some (.struct fs)=>cm.length=P.cellsOf t∧∀ f∈fs.toList,mH P n f.type ((cm.drop f.offset).take (P.cellsOf f.type))
  | _=>True
def nh (P:Program):List Field→Nat→Nat→Bool
 | [],o,n=>o==n
 | f :: fs,o,n=>f.offset==o&&nh P fs (o+P.cellsOf f.type) n
def ng (P:Program) (S:List TypeId):Bool:=S.all fun t=>match P.underlying t with
 | some (.struct fs)=>nh P fs.toList 0 (P.cellsOf t)&&fs.toList.all fun f=>S.contains f.type
 | some (.slice e)=>S.contains e&&decide (0<P.cellsOf e)&&(jc P e||P.cellsOf e==1)
 | _=>true
def rU:Nat→Nat→Prop:=fun _ _=>False
def sH:Env:=fun _=>none
section
variable {P:Program} {w:World} {H:Type} {enc:TypeId×Value→H} {base:Nat} {spare:Nat→Bool} {held:Bool}
theorem Fi {a:Addr} {n:Nat} {cs:List Value} (h:w.cells? base a n=some cs):cs.length=n∧∀ i,i<n→w.cell? (a.add i)=some (cs.getD i undef):=by
 unfold World.cells? at h
 split at h
 ·have hl:=mapM_some_length h
  refine ⟨by simpa using hl,fun i hi=>?_⟩
  have:=mapM_some_get h i i (by simp [hi])
  rw [this]
  have:i<cs.length:=by simp at hl;omega
  simp [List.getD,this]
 ·cases h
theorem SK {x:ae} (h:cN x=false):x.cells=[x]:=by cases x<;>simp_all [ae.cells,cN]
theorem Zz7 {cs:List Value}:∃ cm:List ae,cm.length=cs.length∧(∀ k,k<cs.length→bS w rU sH (cs.getD k undef) (cm.getD k .undef))∧∀ x∈cm,x = .undef :=
 ⟨List.replicate cs.length .undef,by simp,fun k hk=>by simp [List.getD,hk];exact .undef _,fun x hx=>by simp at hx;exact hx.2⟩
theorem SE:∀ (fs:List Field) (o N:Nat),nh P fs o N=true→o≤N
 | [],o,N,h=>by simp [nh] at h;omega
 | f :: fs,o,N,h=>by
  simp only [nh,aC] at h
  have:=SE fs _ N h.2
  omega
theorem RB {cs:List Value} {n N:Nat} (hN:cs.length=N):∀ (fs:List Field) (o:Nat),nh P fs o N=true →
  (∀ f∈fs, ∃ cm:List ae,cm.length=((cs.drop f.offset).take (P.cellsOf f.type)).length∧(∀ k,k<cm.length→bS w rU sH (((cs.drop f.offset).take (P.cellsOf f.type)).getD k undef) (cm.getD k .undef))∧mH P n f.type cm) →
  ∃ cm:List ae,cm.length=N - o∧(∀ k,k<cm.length→bS w rU sH (cs.getD (o+k) undef) (cm.getD k .undef))∧∀ f∈fs,o≤f.offset∧mH P n f.type ((cm.drop (f.offset - o)).take (P.cellsOf f.type))
 | [],o,h,_=>by
  simp [nh] at h
  exact ⟨[],by simp;omega,fun k hk=>by simp at hk,fun f hf=>by simp at hf⟩
 | f :: fs,o,h,hf=>by
  simp only [nh,aC,beq_iff_eq] at h
  obtain ⟨rfl,h⟩:=h
  have hle:=SE fs _ N h
  obtain ⟨F8,a1,a2,a3⟩:=hf f (by simp)
  obtain ⟨as2,b1,b2,b3⟩:=RB hN fs _ h fun g hg=>hf g (by simp [hg])
  have tG:F8.length=P.cellsOf f.type:=by rw [a1];simp;omega
  refine ⟨F8++as2,by simp;omega,fun k hk=>?_,fun g hg=>?_⟩
  ·rw [tz]
   split
   ·rename_i bG
    have:=a2 k bG
    have e:((cs.drop f.offset).take (P.cellsOf f.type)).getD k undef=cs.getD (f.offset+k) undef:=by
     simp [List.getD,fj,show k<P.cellsOf f.type by omega]
    rw [e] at this;exact this
   ·rename_i vH
    have:=b2 (k - F8.length) (by simp at hk;omega)
    rw [show f.offset+P.cellsOf f.type+(k - F8.length)=f.offset+k by omega] at this
    exact this
  ·rcases aR.1 hg with rfl | hg
   ·refine ⟨ah _,?_⟩
    rw [en,dn,← tG,m9];exact a3
   ·obtain ⟨c1,c2⟩:=b3 g hg
    refine ⟨by omega,?_⟩
    rw [List.drop_append,fW (by omega),bh,show g.offset - f.offset - F8.length=g.offset - (f.offset+P.cellsOf f.type) by omega]
    exact c2
theorem Zuw {e:TypeId} {l:List (DataW H)} {d:DataW H} (h:d∈l):∀ n∈d.weights P e,n∈DataW.weightsAll P e l:=by
 induction l with
 | nil=>cases h
 | cons x l ih =>
  intro n hn
  simp only [DataW.weightsAll,aW]
  rcases aR.1 h with rfl | h
  ·exact .inl hn
  ·exact .inr (ih h n hn)
theorem ZJ {S:List TypeId} (hC:ng P S=true):∀ (fuel:Nat) (t:TypeId) (cs:List Value) (x:DataW H×List MemPlace),t∈S→DataW.trod enc P w base spare held fuel t cs=some x→(∀ n∈x.1.weights P t,n≤reachBytes) →
  ∃ cm:List ae,cm.length=cs.length∧(∀ k,k<cm.length→bS w rU sH (cs.getD k undef) (cm.getD k .undef))∧mH P fuel t cm∧(jc P t=false→cm.length=1→∃ y,cm=[y]∧cN y=false):=by
 intro fuel
 induction fuel with
 | zero=>intro t cs x _ h;simp [DataW.trod] at h
 | succ n ih =>
  intro t cs x hS h wB
  have CV:=(bj.1 hC) t hS
  have one:∀ (v:Value) (y:ae),cs=[v]→bS w rU sH v y→mH P (n+1) t [y]→cN y=false→∃ cm:List ae,cm.length=cs.length∧(∀ k,k<cm.length→bS w rU sH (cs.getD k undef) (cm.getD k .undef))∧mH P (n+1) t cm∧(jc P t=false→cm.length=1→∃ y,cm=[y]∧cN y=false):=by
   rintro v y rfl h1 h2 h3
   refine ⟨[y],rfl,fun k hk=>?_,h2,fun _ _=>⟨y,rfl,h3⟩⟩
   have:k=0:=by simpa using hk
   subst this;exact h1
  have other:(∀ cm,mH P (n+1) t cm)→∃ cm:List ae,cm.length=cs.length∧(∀ k,k<cm.length→bS w rU sH (cs.getD k undef) (cm.getD k .undef))∧mH P (n+1) t cm∧(jc P t=false→cm.length=1→∃ y,cm=[y]∧cN y=false):=by
   intro hT
   obtain ⟨cm,h1,h2,h3⟩:=Zz7 (w:=w) (cs:=cs)
   refine ⟨cm,h1,fun k hk=>h2 k (by omega),hT cm,fun _ hl=>?_⟩
   match cm,hl with
   | [y],_=>exact ⟨y,rfl,by rw [h3 y (by simp)];rfl⟩
  cases hu:P.underlying t with
  | none=>exact other fun cm=>by simp [mH,hu]
  | some u =>
  cases u with
  | bool =>
   obtain ⟨b,rfl,_⟩:=DataW.trod_bool hu h
   exact one _ (.bool b) rfl (.bool b) (by simp [mH,hu]) rfl
  | int kd =>
   obtain ⟨i,rfl,_,hw⟩:=DataW.trod_int hu h
   exact one _ (.int kd i) rfl (.int kd i) (by simp [mH,hu,hw]) rfl
  | string =>
   obtain ⟨s,rfl,rfl,hs⟩:=DataW.trod_string hu h
   have Hc:s.size≤reachBytes:=by
    have:=wB s.data.toList.length (by simp [DataW.weights])
    rw [bB] at this;exact this
   exact one _ (.str s) rfl (.str s) (by simp [mH,hu,Hc]) rfl
  | slice e =>
   rcases DataW.trod_slice hu h with ⟨rfl,_⟩ | ⟨a,len,cap,elems,rest,m,hm,rfl,yK,_,hl,jr,hlen,je,_,_⟩
   ·refine one _ (.ps (P.cellsOf e) []) rfl (bS.ps (es:=[]) (fun _ _=>undef) (by simp) (fun i hi=>absurd hi (by simp)) (fun i j hi=>absurd hi (by simp)) (fun h0=>absurd h0 (by simp)) (fun i j hi=>absurd hi (by simp))) ?_ rfl
    simp [mH,hu]
   ·obtain rfl:n=m:=by omega
    subst yK
    simp only [DataW.weights,hu,ak] at wB
    rw [hu] at CV
    simp only [aC,decide_eq_true_eq,b9,beq_iff_eq] at CV
    obtain ⟨⟨M_,nq⟩,qn⟩:=CV
    have M_:e∈S:=by simpa using M_
    have key:∀ i,i<len→∃ (ec:List Value) (cm:List ae),w.cells? base (a.add (i*P.cellsOf e)) (P.cellsOf e)=some ec∧cm.length=ec.length∧(∀ k,k<cm.length→bS w rU sH (ec.getD k undef) (cm.getD k .undef))∧mH P n e cm∧(jc P e=false→cm.length=1→∃ y,cm=[y]∧cN y=false):=by
     intro i hi
     have h1:=je i hi
     rw [aA (by omega)] at h1
     obtain ⟨ec,h2,h3⟩:=au.1 h1
     obtain ⟨cm,q1,q2,q3,q4⟩:=ih e ec _ M_ h3 fun n hn=>wB n (cu _ (gN _ (Zuw (bZ.2 ⟨_,aE _,rfl⟩) n hn)))
     exact ⟨ec,cm,h2,q1,q2,q3,q4⟩
    have BV : 0<len→a.spot=none:=fun h0=>by
     obtain ⟨ec,cm,q1,_⟩:=key 0 h0
     have:=(Fi q1).2 0 nq
     simp only [pD,Addr.add,if_true] at this
     simp only [World.cell?] at this
     split at this
     ·cases hs:a.spot with
      | none=>rfl
      | some z=>rw [hs] at this;simp at this
     ·cases this
    let ec:Nat→List Value:=fun i=>if h:i<len then Classical.choose (key i h) else []
    let el:Nat→List ae:=fun i=>if h:i<len then Classical.choose (lD (key i h)) else []
    have hk:∀ i,i<len→w.cells? base (a.add (i*P.cellsOf e)) (P.cellsOf e)=some (ec i)∧(el i).length=(ec i).length∧(∀ k,k<(el i).length→bS w rU sH ((ec i).getD k undef) ((el i).getD k .undef))∧mH P n e (el i)∧(jc P e=false→(el i).length=1→∃ y,el i=[y]∧cN y=false):=by
     intro i hi
     simp only [ec,el,dif_pos hi]
     exact lD (lD (key i hi))
    generalize ec=ec at hk
    generalize el=el at hk
    let es:List ae:=(List.range len).map fun i=>if jc P e=true then .agg (el i) else (el i).headD .undef
    have oO:es.length=len:=by simp [es]
    have eL:∀ i,i<len→(es.getD i .undef).cells=el i∧cN (es.getD i .undef)=jc P e:=by
     intro i hi
     have e1:es.getD i .undef=if jc P e=true then .agg (el i) else (el i).headD .undef:=by simp [es,List.getD,hi]
     rw [e1]
     obtain ⟨q1,q2,_,_,q5⟩:=hk i hi
     have GX:=(Fi q1).1
     cases ha:jc P e with
     | true=>exact ⟨rfl,rfl⟩
     | false =>
      rw [ha] at qn
      obtain ⟨y,hy,zJ⟩:=q5 ha (by rw [q2,GX];simpa using qn)
      rw [hy]
      simp only [a_,if_false,List.headD_cons]
      exact ⟨SK zJ,zJ⟩
    have rj:bS w rU sH (.slice (some a) es.length cap) (.ps (P.cellsOf e) es):=by
     refine bS.ps (fun i j=>(ec i).getD j undef) (by omega) (fun i hi=>?_) (fun i j hi hj=>?_) (fun h0=>⟨a.block,a.off,?_⟩) (fun i j hi hj=>?_)
     ·rw [(eL i (by omega)).1,(hk i (by omega)).2.1];exact (Fi (hk i (by omega)).1).1
     ·have zH:=BV (by omega)
      obtain ⟨q1,_⟩:=hk i (by omega)
      have hc:=(Fi q1).2 j hj
      refine ⟨a.block,a.off,?_,?_,fun h=>h⟩
      ·cases a;simp at zH;subst zH;rfl
      ·rw [← hc]
       cases a with
       | mk g o sp =>
        simp only at zH;subst zH
        simp only [Addr.add]
        split<;>split<;>simp_all<;>omega
     ·have zH:=BV (by omega)
      cases a;simp at zH;subst zH;rfl
     ·obtain ⟨_,q2,q3,_⟩:=hk i (by omega)
      rw [(eL i (by omega)).1]
      exact q3 j (by rw [q2,(Fi (hk i (by omega)).1).1];exact hj)
    rw [oO] at rj
    refine one _ _ rfl rj ?_ rfl
    simp only [mH,hu]
    refine ⟨es,rfl,⟨by omega,?_⟩,fun x hx=>?_⟩
    ·rw [oO,← hlen]
     exact cV (aX _ (bO _ _)) (wB _ List.mem_cons_self)
    obtain ⟨i,hi,e1⟩:=mF hx
    have:es.getD i .undef=x:=by simp [List.getD,hi,e1]
    rw [← this,(eL i (by omega)).1]
    exact ⟨(eL i (by omega)).2,(hk i (by omega)).2.2.2.1⟩
  | struct fs =>
   obtain ⟨xs,m,hm,rfl,hl,hxl,hx⟩:=DataW.trod_struct hu h
   obtain rfl:n=m:=by omega
   simp only [DataW.weights,hu] at wB
   rw [hu] at CV
   simp only [aC] at CV
   obtain ⟨cm,a1,a2,a3⟩:=RB (w:=w) (n:=n) hl fs.toList 0 CV.1 fun f hf=>by
    obtain ⟨i,hi,e⟩:=mF hf
    have h1:=hx i f (by simp at hi;simp [hi];simpa using e)
    rw [aA (by simp at hi;omega)] at h1
    obtain ⟨cm,q1,q2,q3,_⟩:=ih f.type _ _ (by simpa using (bj.1 CV.2) f hf) h1 fun n hn=>wB n (DataW.weights_mem_each (j:=i) (by rw [cf,aA hi,e];rfl) (by rw [cf,aA (by simp at hi;omega)];rfl) n hn)
    exact ⟨cm,q1,q2,q3⟩
   refine ⟨cm,by omega,fun k hk=>by simpa using a2 k hk,?_,fun ha=>by simp [jc,hu,qM] at ha⟩
   simp only [mH,hu]
   exact ⟨by omega,fun f hf=>by simpa using (a3 f hf).2⟩
  | _=>exact other fun cm=>by simp [mH,hu]
end
end Go.c8
