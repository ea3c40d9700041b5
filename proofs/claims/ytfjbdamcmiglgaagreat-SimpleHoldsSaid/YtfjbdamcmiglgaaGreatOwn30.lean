/- Part 30 of my own framework and of the walks of functions: AcsE. -/
import Derived.Test.YtfjbdamcmiglgaaGreatOwn29
import Derived.ChangeArms
import Derived.ProofKit
import Derived.SizedLaws
abbrev qN:=@Classical.choose_spec
abbrev dP:=@List.drop_eq_nil_of_le
abbrev dH:=@List.drop_zero
abbrev ia:=@List.mem_append_left
abbrev cR:=@List.mem_cons_of_mem
abbrev nD:=@List.take_left
abbrev b9:=@Nat.le_add_right
set_option linter.unusedVariables false
set_option linter.unusedSectionVars false
set_option linter.unusedSimpArgs false
namespace Go.dm
open Go
def jt (P:Program) (t:TypeId):Bool :=
 match P.underlying t with
 | some u=>rP u
 | none=>false
def mG (P:Program):Nat→TypeId→List ah→Prop
 | 0,_,_=>False
 | n+1,t,cD=>match P.underlying t with
  | some .bool=>∃ b,cD=[.bool b]
  | some (.int k)=>∃ i,cD=[.int k i]∧(Lit.int k i).wf=true
  | some .string=>∃ s:ByteArray,cD=[.str s]∧s.size≤reachBytes
  | some (.slice e)=>∃ es,cD=[.ps (P.cellsOf e) es]∧(es.length≤maxLen∧es.length*P.bytesOf e≤reachBytes)∧∀ x∈es,cX x=jt P e∧mG P n e x.cells
  | some (.struct fs)=>cD.length=P.cellsOf t∧∀ f∈fs.toList,mG P n f.type ((cD.drop f.offset).take (P.cellsOf f.type))
  | _=>True
def nK (P:Program):List Field→Nat→Nat→Bool
 | [],o,n=>o==n
 | f :: fs,o,n=>f.offset==o&&nK P fs (o+P.cellsOf f.type) n
def nJ (P:Program) (S:List TypeId):Bool:=S.all fun t=>match P.underlying t with
 | some (.struct fs)=>nK P fs.toList 0 (P.cellsOf t)&&fs.toList.all fun f=>S.contains f.type
 | some (.slice e)=>S.contains e&&decide (0<P.cellsOf e)&&(jt P e||P.cellsOf e==1)
 | _=>true
def sX:Nat→Nat→Prop:=fun _ _=>False
def tP:Env:=fun _=>none
section
variable {P:Program} {w:World} {H:Type} {enc:TypeId×Value→H} {base:Nat} {spare:Nat→Bool} {held:Bool}
theorem Gj {a:Addr} {n:Nat} {cs:List Value} (h:w.cells? base a n=some cs):cs.length=n∧∀ i,i<n→w.cell? (a.add i)=some (cs.getD i undef):=by
 unfold World.cells? at h;split at h
 ·have hl:=mapM_some_length h;refine ⟨by simpa using hl,fun i hi=>?_⟩;have:=mapM_some_get h i i (by simp [hi]);rw [this];have:i<cs.length:=by simp at hl;omega
  simp [List.getD,this]
 ·cases h
theorem Vj {x:ah} (h:cX x=false):x.cells=[x]:=by cases x<;>simp_all [ah.cells,cX]
theorem Yci {cs:List Value}:∃ cD:List ah,cD.length=cs.length∧(∀ k,k<cs.length→cf w sX tP (cs.getD k undef) (cD.getD k .undef))∧∀ x∈cD,x = .undef :=
 ⟨List.replicate cs.length .undef,by simp,fun k hk=>by simp [List.getD,hk];exact .undef _,fun x hx=>by simp at hx;exact hx.2⟩
theorem Vv:∀ (fs:List Field) (o N:Nat),nK P fs o N=true→o≤N
 | [],o,N,h=>by simp [nK] at h;omega
 | f :: fs,o,N,h=>by
  simp only [nK,aB] at h;have:=Vv fs _ N h.2;omega
theorem TB {cs:List Value} {n N:Nat} (hN:cs.length=N):∀ (fs:List Field) (o:Nat),nK P fs o N=true →
  (∀ f∈fs, ∃ cD:List ah,cD.length=((cs.drop f.offset).take (P.cellsOf f.type)).length∧(∀ k,k<cD.length→cf w sX tP (((cs.drop f.offset).take (P.cellsOf f.type)).getD k undef) (cD.getD k .undef))∧mG P n f.type cD) →
  ∃ cD:List ah,cD.length=N - o∧(∀ k,k<cD.length→cf w sX tP (cs.getD (o+k) undef) (cD.getD k .undef))∧∀ f∈fs,o≤f.offset∧mG P n f.type ((cD.drop (f.offset - o)).take (P.cellsOf f.type))
 | [],o,h,_=>by
  simp [nK] at h;exact ⟨[],by simp;omega,fun k hk=>by simp at hk,fun f hf=>by simp at hf⟩
 | f :: fs,o,h,hf=>by
  simp only [nK,aB,beq_iff_eq] at h;obtain ⟨rfl,h⟩:=h;have hle:=Vv fs _ N h;obtain ⟨G6,a1,a2,a3⟩:=hf f (by simp);obtain ⟨as2,b1,b2,b3⟩:=TB hN fs _ h fun g hg=>hf g (by simp [hg]);have uJ:G6.length=P.cellsOf f.type:=by rw [a1];simp;omega
  refine ⟨G6++as2,by simp;omega,fun k hk=>?_,fun g hg=>?_⟩
  ·rw [uC];split
   ·rename_i bA;have:=a2 k bA;have e:((cs.drop f.offset).take (P.cellsOf f.type)).getD k undef=cs.getD (f.offset+k) undef:=by
     simp [List.getD,fI,show k<P.cellsOf f.type by omega]
    rw [e] at this;exact this
   ·rename_i rB;have:=b2 (k - G6.length) (by simp at hk;omega);rw [show f.offset+P.cellsOf f.type+(k - G6.length)=f.offset+k by omega] at this;exact this
  ·rcases aQ.1 hg with rfl | hg
   ·refine ⟨ae _,?_⟩;rw [eV,dH,← uJ,nD];exact a3
   ·obtain ⟨c1,c2⟩:=b3 g hg;refine ⟨by omega,?_⟩;rw [List.drop_append,dP (by omega),bn,show g.offset - f.offset - G6.length=g.offset - (f.offset+P.cellsOf f.type) by omega];exact c2
theorem Zv7 {e:TypeId} {l:List (DataW H)} {d:DataW H} (h:d∈l):∀ n∈d.weights P e,n∈DataW.weightsAll P e l:=by
 induction l with
 | nil=>cases h
 | cons x l ih =>
  intro n hn;simp only [DataW.weightsAll,aY];rcases aQ.1 h with rfl | h
  ·exact .inl hn
  ·exact .inr (ih h n hn)
theorem Yhg {S:List TypeId} (hC:nJ P S=true):∀ (fuel:Nat) (t:TypeId) (cs:List Value) (x:DataW H×List MemPlace),t∈S→DataW.trod enc P w base spare held fuel t cs=some x→(∀ n∈x.1.weights P t,n≤reachBytes) →
  ∃ cD:List ah,cD.length=cs.length∧(∀ k,k<cD.length→cf w sX tP (cs.getD k undef) (cD.getD k .undef))∧mG P fuel t cD∧(jt P t=false→cD.length=1→∃ y,cD=[y]∧cX y=false):=by
 intro fuel
 induction fuel with
 | zero=>intro t cs x _ h;simp [DataW.trod] at h
 | succ n ih =>
  intro t cs x hS h xj;have DN:=(a8.1 hC) t hS;have one:∀ (v:Value) (y:ah),cs=[v]→cf w sX tP v y→mG P (n+1) t [y]→cX y=false→∃ cD:List ah,cD.length=cs.length∧(∀ k,k<cD.length→cf w sX tP (cs.getD k undef) (cD.getD k .undef))∧mG P (n+1) t cD∧(jt P t=false→cD.length=1→∃ y,cD=[y]∧cX y=false):=by
   rintro v y rfl h1 h2 h3;refine ⟨[y],rfl,fun k hk=>?_,h2,fun _ _=>⟨y,rfl,h3⟩⟩;have:k=0:=by simpa using hk
   subst this;exact h1
  have other:(∀ cD,mG P (n+1) t cD)→∃ cD:List ah,cD.length=cs.length∧(∀ k,k<cD.length→cf w sX tP (cs.getD k undef) (cD.getD k .undef))∧mG P (n+1) t cD∧(jt P t=false→cD.length=1→∃ y,cD=[y]∧cX y=false):=by
   intro hT;obtain ⟨cD,h1,h2,h3⟩:=Yci (w:=w) (cs:=cs);refine ⟨cD,h1,fun k hk=>h2 k (by omega),hT cD,fun _ hl=>?_⟩
   match cD,hl with
   | [y],_=>exact ⟨y,rfl,by rw [h3 y (by simp)];rfl⟩
  cases hu:P.underlying t with
  | none=>exact other fun cD=>by simp [mG,hu]
  | some u =>
  cases u with
  | bool =>
   obtain ⟨b,rfl,_⟩:=DataW.trod_bool hu h;exact one _ (.bool b) rfl (.bool b) (by simp [mG,hu]) rfl
  | int kd =>
   obtain ⟨i,rfl,_,hw⟩:=DataW.trod_int hu h;exact one _ (.int kd i) rfl (.int kd i) (by simp [mG,hu,hw]) rfl
  | string =>
   obtain ⟨s,rfl,rfl,hs⟩:=DataW.trod_string hu h;have H6:s.size≤reachBytes:=by
    have:=xj s.data.toList.length (by simp [DataW.weights]);rw [bH] at this;exact this
   exact one _ (.str s) rfl (.str s) (by simp [mG,hu,H6]) rfl
  | slice e =>
   rcases DataW.trod_slice hu h with ⟨rfl,_⟩ | ⟨a,len,cap,elems,rest,m,hm,rfl,zz,_,hl,jH,hlen,ju,_,_⟩
   ·refine one _ (.ps (P.cellsOf e) []) rfl (cf.ps (es:=[]) (fun _ _=>undef) (by simp) (fun i hi=>absurd hi (by simp)) (fun i j hi=>absurd hi (by simp)) (fun h0=>absurd h0 (by simp)) (fun i j hi=>absurd hi (by simp))) ?_ rfl;simp [mG,hu]
   ·obtain rfl:n=m:=by omega
    subst zz;simp only [DataW.weights,hu,aj] at xj;rw [hu] at DN;simp only [aB,decide_eq_true_eq,bR,beq_iff_eq] at DN;obtain ⟨⟨OL,ou⟩,re⟩:=DN;have OL:e∈S:=by simpa using OL
    have key:∀ i,i<len→∃ (ec:List Value) (cD:List ah),w.cells? base (a.add (i*P.cellsOf e)) (P.cellsOf e)=some ec∧cD.length=ec.length∧(∀ k,k<cD.length→cf w sX tP (ec.getD k undef) (cD.getD k .undef))∧mG P n e cD∧(jt P e=false→cD.length=1→∃ y,cD=[y]∧cX y=false):=by
     intro i hi;have h1:=ju i hi;rw [av (by omega)] at h1;obtain ⟨ec,h2,h3⟩:=ay.1 h1;obtain ⟨cD,q1,q2,q3,q4⟩:=ih e ec _ OL h3 fun n hn=>xj n (cR _ (ia _ (Zv7 (cB.2 ⟨_,aC _,rfl⟩) n hn)));exact ⟨ec,cD,h2,q1,q2,q3,q4⟩
    have CR : 0<len→a.spot=none:=fun h0=>by
     obtain ⟨ec,cD,q1,_⟩:=key 0 h0;have:=(Gj q1).2 0 ou;simp only [pZ,Addr.add,if_true] at this;simp only [World.cell?] at this;split at this
     ·cases hs:a.spot with
      | none=>rfl
      | some z=>rw [hs] at this;simp at this
     ·cases this
    let ec:Nat→List Value:=fun i=>if h:i<len then Classical.choose (key i h) else []
    let el:Nat→List ah:=fun i=>if h:i<len then Classical.choose (qN (key i h)) else []
    have hk:∀ i,i<len→w.cells? base (a.add (i*P.cellsOf e)) (P.cellsOf e)=some (ec i)∧(el i).length=(ec i).length∧(∀ k,k<(el i).length→cf w sX tP ((ec i).getD k undef) ((el i).getD k .undef))∧mG P n e (el i)∧(jt P e=false→(el i).length=1→∃ y,el i=[y]∧cX y=false):=by
     intro i hi;simp only [ec,el,dif_pos hi];exact qN (qN (key i hi))
    generalize ec=ec at hk;generalize el=el at hk
    let es:List ah:=(List.range len).map fun i=>if jt P e=true then .agg (el i) else (el i).headD .undef
    have kj:es.length=len:=by simp [es]
    have eJ:∀ i,i<len→(es.getD i .undef).cells=el i∧cX (es.getD i .undef)=jt P e:=by
     intro i hi;have e1:es.getD i .undef=if jt P e=true then .agg (el i) else (el i).headD .undef:=by simp [es,List.getD,hi]
     rw [e1];obtain ⟨q1,q2,_,_,q5⟩:=hk i hi;have HQ:=(Gj q1).1;cases ha:jt P e with
     | true=>exact ⟨rfl,rfl⟩
     | false =>
      rw [ha] at re;obtain ⟨y,hy,AK⟩:=q5 ha (by rw [q2,HQ];simpa using re);rw [hy];simp only [bd,if_false,List.headD_cons];exact ⟨Vj AK,AK⟩
    have sm:cf w sX tP (.slice (some a) es.length cap) (.ps (P.cellsOf e) es):=by
     refine cf.ps (fun i j=>(ec i).getD j undef) (by omega) (fun i hi=>?_) (fun i j hi hj=>?_) (fun h0=>⟨a.block,a.off,?_⟩) (fun i j hi hj=>?_)
     ·rw [(eJ i (by omega)).1,(hk i (by omega)).2.1];exact (Gj (hk i (by omega)).1).1
     ·have AE:=CR (by omega);obtain ⟨q1,_⟩:=hk i (by omega);have hc:=(Gj q1).2 j hj;refine ⟨a.block,a.off,?_,?_,fun h=>h⟩
      ·cases a;simp at AE;subst AE;rfl
      ·rw [← hc];cases a with
       | mk g o sp =>
        simp only at AE;subst AE;simp only [Addr.add];split<;>split<;>simp_all<;>omega
     ·have AE:=CR (by omega);cases a;simp at AE;subst AE;rfl
     ·obtain ⟨_,q2,q3,_⟩:=hk i (by omega);rw [(eJ i (by omega)).1];exact q3 j (by rw [q2,(Gj (hk i (by omega)).1).1];exact hj)
    rw [kj] at sm;refine one _ _ rfl sm ?_ rfl;simp only [mG,hu];refine ⟨es,rfl,⟨by omega,?_⟩,fun x hx=>?_⟩
    ·rw [kj,← hlen];exact c_ (bf _ (b9 _ _)) (xj _ List.mem_cons_self)
    obtain ⟨i,hi,e1⟩:=mX hx;have:es.getD i .undef=x:=by simp [List.getD,hi,e1]
    rw [← this,(eJ i (by omega)).1];exact ⟨(eJ i (by omega)).2,(hk i (by omega)).2.2.2.1⟩
  | struct fs =>
   obtain ⟨xs,m,hm,rfl,hl,hxl,hx⟩:=DataW.trod_struct hu h;obtain rfl:n=m:=by omega
   simp only [DataW.weights,hu] at xj;rw [hu] at DN;simp only [aB] at DN;obtain ⟨cD,a1,a2,a3⟩:=TB (w:=w) (n:=n) hl fs.toList 0 DN.1 fun f hf=>by
    obtain ⟨i,hi,e⟩:=mX hf;have h1:=hx i f (by simp at hi;simp [hi];simpa using e);rw [av (by simp at hi;omega)] at h1;obtain ⟨cD,q1,q2,q3,_⟩:=ih f.type _ _ (by simpa using (a8.1 DN.2) f hf) h1 fun n hn=>xj n (DataW.weights_mem_each (j:=i) (by rw [cu,av hi,e];rfl) (by rw [cu,av (by simp at hi;omega)];rfl) n hn);exact ⟨cD,q1,q2,q3⟩
   refine ⟨cD,by omega,fun k hk=>by simpa using a2 k hk,?_,fun ha=>by simp [jt,hu,rP] at ha⟩;simp only [mG,hu];exact ⟨by omega,fun f hf=>by simpa using (a3 f hf).2⟩
  | _=>exact other fun cD=>by simp [mG,hu]
end
end Go.dm
