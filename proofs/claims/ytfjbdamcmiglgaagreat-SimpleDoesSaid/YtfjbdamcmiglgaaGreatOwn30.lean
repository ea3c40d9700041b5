/- Part 30 of what the claim rests on. -/
import Derived.Test.YtfjbdamcmiglgaaGreatOwn29
import Derived.ChangeArms
import Derived.ProofKit
import Derived.SizedLaws
set_option linter.all false
abbrev sf:=@Classical.choose_spec
abbrev dY:=@List.drop_eq_nil_of_le
abbrev dQ:=@List.drop_zero
abbrev gb:=@List.mem_append_left
abbrev ct:=@List.mem_cons_of_mem
abbrev oG:=@List.take_left
abbrev bV:=@Nat.le_add_right
namespace Go.dq
open Go
def jV (P:Program)(t:TypeId):Bool :=
 match P.underlying t with
 |some u=>td u
 |none=>false
def n8 (P:Program):Nat->TypeId->List ah->Prop
 |0,_,_=>False
 |n+1,t,cI=>match P.underlying t with
  |some .bool=>∃b,cI=[.bool b]
  |some (.int k)=>∃i,cI=[.int k i]/\(Lit.int k i).wf=true
  |some .string=>∃s:ByteArray,cI=[.str s]/\s.size<=reachBytes
  |some (.slice e)=>∃es,cI=[.ps (P.cellsOf e) es]/\(es.length<=maxLen/\es.length*P.bytesOf e<=reachBytes)/\∀x∈es,c_ x=jV P e/\n8 P n e x.cells
  |some (.struct fs)=>cI.length=P.cellsOf t/\∀f∈fs.toList,n8 P n f.type ((cI.drop f.offset).take (P.cellsOf f.type))
  |_=>True
def oM (P:Program):List Field->Nat->Nat->Bool
 |[],o,n=>o==n
 |f :: fs,o,n=>f.offset==o&&oM P fs (o+P.cellsOf f.type) n
def oL (P:Program)(S:List TypeId):Bool:=S.all λt=>match P.underlying t with
 |some (.struct fs)=>oM P fs.toList 0 (P.cellsOf t)&&fs.toList.all λf=>S.contains f.type
 |some (.slice e)=>S.contains e&&decide (0<P.cellsOf e)&&(jV P e||P.cellsOf e==1)
 |_=>true
def ux:Nat->Nat->Prop:=λ_ _=>False
def vd:Env:=λ_=>none
section
variable {P:Program}{w:World}{H:Type}{enc:TypeId×Value->H}{base:Nat}{spare:Nat->Bool}{held:Bool}
theorem HT {a:Addr} {n:Nat} {cs:List Value} (h:w.cells? base a n=some cs):cs.length=n/\∀i,i<n->w.cell? (a.add i)=some (cs.getD i undef):=by
 unfold World.cells? at h;split at h
 ·have hl:=mapM_some_length h;refine⟨by simpa using hl,λi hi=>?_⟩;have:=mapM_some_get h i i (by simp[hi]);rw[this];have:i<cs.length:=by simp at hl;omega
  simp[List.getD,this]
 ·cases h
theorem X8 {x:ah}(h:c_ x=false):x.cells=[x]:=by cases x<;>simp_all [ah.cells,c_]
theorem Ybv {cs:List Value}:∃cI:List ah,cI.length=cs.length/\(∀k,k<cs.length->cn w ux vd (cs.getD k undef) (cI.getD k .undef))/\∀x∈cI,x=.undef :=
 ⟨List.replicate cs.length .undef,by simp,λk hk=>by simp[List.getD,hk];exact .undef _,λx hx=>by simp at hx;exact hx.2⟩
theorem Yl:∀(fs:List Field) (o N:Nat),oM P fs o N=true->o<=N
 |[],o,N,h=>by simp[oM]at h;omega
 |f :: fs,o,N,h=>by
  simp only[oM,aG]at h;have:=Yl fs _ N h.2;omega
theorem VG {cs:List Value} {n N:Nat} (hN:cs.length=N):∀(fs:List Field) (o:Nat),oM P fs o N=true ->
  (∀f∈fs,∃cI:List ah,cI.length=((cs.drop f.offset).take (P.cellsOf f.type)).length/\(∀k,k<cI.length->cn w ux vd (((cs.drop f.offset).take (P.cellsOf f.type)).getD k undef) (cI.getD k .undef))/\n8 P n f.type cI) ->
  ∃cI:List ah,cI.length=N-o/\(∀k,k<cI.length->cn w ux vd (cs.getD (o+k) undef) (cI.getD k .undef))/\∀f∈fs,o<=f.offset/\n8 P n f.type ((cI.drop (f.offset-o)).take (P.cellsOf f.type))
 |[],o,h,_=>by
  simp[oM]at h;exact⟨[],by simp;omega,λk hk=>by simp at hk,λf hf=>by simp at hf⟩
 | f :: fs,o,h,hf=>by
  simp only[oM,aG,beq_iff_eq]at h;obtain⟨rfl,h⟩:=h;have hle:=Yl fs _ N h;obtain⟨IF,a1,a2,a3⟩:=hf f (by simp);obtain⟨as2,b1,b2,b3⟩:=VG hN fs _ h λg hg=>hf g (by simp[hg]);have uW:IF.length=P.cellsOf f.type:=by rw[a1];simp;omega
  refine⟨IF++as2,by simp;omega,λk hk=>?_,λg hg=>?_⟩
  ·rw [vW];split
   ·rename_i bx;have:=a2 k bx;have e:((cs.drop f.offset).take (P.cellsOf f.type)).getD k undef=cs.getD (f.offset+k) undef:=by
     simp[List.getD,fh,show k<P.cellsOf f.type by omega]
    rw[e]at this;exact this
   ·rename_i uF;have:=b2 (k-IF.length) (by simp at hk;omega);rw[show f.offset+P.cellsOf f.type+(k-IF.length)=f.offset+k by omega]at this;exact this
  ·rcases aU.1 hg with rfl|hg
   ·refine⟨ae _,?_⟩;rw[dF,dQ,<-uW,oG];exact a3
   ·obtain⟨c1,c2⟩:=b3 g hg;refine⟨by omega,?_⟩;rw[List.drop_append,dY (by omega),aY,show g.offset-f.offset-IF.length=g.offset-(f.offset+P.cellsOf f.type) by omega];exact c2
theorem Zwr {e:TypeId} {l:List (DataW H)} {d:DataW H} (h:d∈l):∀n∈d.weights P e,n∈DataW.weightsAll P e l:=by
 induction l with
 |nil=>cases h
 |cons x l ih =>
  intro n hn;simp only[DataW.weightsAll,a_];rcases aU.1 h with rfl|h
  ·exact .inl hn
  ·exact .inr (ih h n hn)
theorem Yht {S:List TypeId} (hC:oL P S=true):∀(fuel:Nat) (t:TypeId) (cs:List Value) (x:DataW H×List MemPlace),t∈S->DataW.trod enc P w base spare held fuel t cs=some x->(∀n∈x.1.weights P t,n<=reachBytes) ->
  ∃cI:List ah,cI.length=cs.length/\(∀k,k<cI.length->cn w ux vd (cs.getD k undef) (cI.getD k .undef))/\n8 P fuel t cI/\(jV P t=false->cI.length=1->∃y,cI=[y]/\c_ y=false):=by
 intro fuel
 induction fuel with
 |zero=>intro t cs x _ h;simp[DataW.trod]at h
 | succ n ih =>
  intro t cs x hS h yD;have Fi:=(bu.1 hC) t hS;have one:∀(v:Value) (y:ah),cs=[v]->cn w ux vd v y->n8 P (n+1) t [y]->c_ y=false->∃cI:List ah,cI.length=cs.length/\(∀k,k<cI.length->cn w ux vd (cs.getD k undef) (cI.getD k .undef))/\n8 P (n+1) t cI/\(jV P t=false->cI.length=1->∃y,cI=[y]/\c_ y=false):=by
   rintro v y rfl h1 h2 h3;refine⟨[y],rfl,λk hk=>?_,h2,λ_ _=>⟨y,rfl,h3⟩⟩;have:k=0:=by simpa using hk
   subst this;exact h1
  have other:(∀cI,n8 P (n+1) t cI)->∃cI:List ah,cI.length=cs.length/\(∀k,k<cI.length->cn w ux vd (cs.getD k undef) (cI.getD k .undef))/\n8 P (n+1) t cI/\(jV P t=false->cI.length=1->∃y,cI=[y]/\c_ y=false):=by
   intro hT;obtain⟨cI,h1,h2,h3⟩:=Ybv (w:=w) (cs:=cs);refine⟨cI,h1,λk hk=>h2 k (by omega),hT cI,λ_ hl=>?_⟩
   match cI,hl with
   |[y],_=>exact⟨y,rfl,by rw[h3 y (by simp)];rfl⟩
  cases hu:P.underlying t with
  |none=>exact other λcI=>by simp[n8,hu]
  |some u =>
  cases u with
  |bool =>
   obtain⟨b,rfl,_⟩:=DataW.trod_bool hu h;exact one _ (.bool b) rfl (.bool b) (by simp[n8,hu]) rfl
  |int kd =>
   obtain⟨i,rfl,_,hw⟩:=DataW.trod_int hu h;exact one _ (.int kd i) rfl (.int kd i) (by simp[n8,hu,hw]) rfl
  | string =>
   obtain⟨s,rfl,rfl,hs⟩:=DataW.trod_string hu h;have JT:s.size<=reachBytes:=by
    have:=yD s.data.toList.length (by simp[DataW.weights]);rw[bR]at this;exact this
   exact one _ (.str s) rfl (.str s) (by simp[n8,hu,JT]) rfl
  | slice e =>
   rcases DataW.trod_slice hu h with⟨rfl,_⟩|⟨a,len,cap,elems,rest,m,hm,rfl,xS,_,hl,j8,hlen,jD,_,_⟩
   ·refine one _ (.ps (P.cellsOf e) []) rfl (cn.ps (es:=[]) (λ_ _=>undef) (by simp) (λi hi=>absurd hi (by simp)) (λi j hi=>absurd hi (by simp)) (λh0=>absurd h0 (by simp)) (λi j hi=>absurd hi (by simp))) ?_ rfl;simp[n8,hu]
   ·obtain rfl:n=m:=by omega
    subst xS;simp only[DataW.weights,hu,ao]at yD;rw[hu]at Fi;simp only[aG,decide_eq_true_eq,cb,beq_iff_eq]at Fi;obtain⟨⟨Q_,oS⟩,sG⟩:=Fi;have Q_:e∈S:=by simpa using Q_
    have key:∀i,i<len->∃(ec:List Value) (cI:List ah),w.cells? base (a.add (i*P.cellsOf e)) (P.cellsOf e)=some ec/\cI.length=ec.length/\(∀k,k<cI.length->cn w ux vd (ec.getD k undef) (cI.getD k .undef))/\n8 P n e cI/\(jV P e=false->cI.length=1->∃y,cI=[y]/\c_ y=false):=by
     intro i hi;have h1:=jD i hi;rw[ax (by omega)]at h1;obtain⟨ec,h2,h3⟩:=aB.1 h1;obtain⟨cI,q1,q2,q3,q4⟩:=ih e ec _ Q_ h3 λn hn=>yD n (ct _ (gb _ (Zwr (cN.2 ⟨_,ay _,rfl⟩) n hn)));exact⟨ec,cI,h2,q1,q2,q3,q4⟩
    have Eo : 0<len->a.spot=none:=λh0=>by
     obtain⟨ec,cI,q1,_⟩:=key 0 h0;have:=(HT q1).2 0 oS;simp only[qX,Addr.add,if_true]at this;simp only[World.cell?]at this;split at this
     ·cases hs:a.spot with
      |none=>rfl
      |some z=>rw[hs]at this;simp at this
     ·cases this
    let ec:Nat->List Value:=λi=>if h:i<len then Classical.choose (key i h) else []
    let el:Nat->List ah:=λi=>if h:i<len then Classical.choose (sf (key i h)) else []
    have hk:∀i,i<len->w.cells? base (a.add (i*P.cellsOf e)) (P.cellsOf e)=some (ec i)/\(el i).length=(ec i).length/\(∀k,k<(el i).length->cn w ux vd ((ec i).getD k undef) ((el i).getD k .undef))/\n8 P n e (el i)/\(jV P e=false->(el i).length=1->∃y,el i=[y]/\c_ y=false):=by
     intro i hi;simp only[ec,el,dif_pos hi];exact sf (sf (key i hi))
    generalize ec=ec at hk;generalize el=el at hk
    let es:List ah:=(List.range len).map λi=>if jV P e=true then .agg (el i) else (el i).headD .undef
    have kp:es.length=len:=by simp[es]
    have fc:∀i,i<len->(es.getD i .undef).cells=el i/\c_ (es.getD i .undef)=jV P e:=by
     intro i hi;have e1:es.getD i .undef=if jV P e=true then .agg (el i) else (el i).headD .undef:=by simp[es,List.getD,hi]
     rw[e1];obtain⟨q1,q2,_,_,q5⟩:=hk i hi;have Jy:=(HT q1).1;cases ha:jV P e with
     |true=>exact⟨rfl,rfl⟩
     |false =>
      rw[ha]at sG;obtain⟨y,hy,Cf⟩:=q5 ha (by rw[q2,Jy];simpa using sG);rw[hy];simp only[aX,if_false,List.headD_cons];exact⟨X8 Cf,Cf⟩
    have tK:cn w ux vd (.slice (some a) es.length cap) (.ps (P.cellsOf e) es):=by
     refine cn.ps (λi j=>(ec i).getD j undef) (by omega) (λi hi=>?_) (λi j hi hj=>?_) (λh0=>⟨a.block,a.off,?_⟩) (λi j hi hj=>?_)
     ·rw[(fc i (by omega)).1,(hk i (by omega)).2.1];exact(HT (hk i (by omega)).1).1
     ·have Cb:=Eo (by omega);obtain⟨q1,_⟩:=hk i (by omega);have hc:=(HT q1).2 j hj;refine⟨a.block,a.off,?_,?_,λh=>h⟩
      ·cases a;simp at Cb;subst Cb;rfl
      ·rw [<-hc];cases a with
       |mk g o sp =>
        simp only at Cb;subst Cb;simp only[Addr.add];split<;>split<;>simp_all<;>omega
     ·have Cb:=Eo (by omega);cases a;simp at Cb;subst Cb;rfl
     ·obtain⟨_,q2,q3,_⟩:=hk i (by omega);rw[(fc i (by omega)).1];exact q3 j (by rw[q2,(HT (hk i (by omega)).1).1];exact hj)
    rw[kp]at tK;refine one _ _ rfl tK ?_ rfl;simp only[n8,hu];refine⟨es,rfl,⟨by omega,?_⟩,λx hx=>?_⟩
    ·rw[kp,<-hlen];exact dg (aZ _ (bV _ _)) (yD _ List.mem_cons_self)
    obtain⟨i,hi,e1⟩:=n6 hx;have:es.getD i .undef=x:=by simp[List.getD,hi,e1]
    rw[<-this,(fc i (by omega)).1];exact⟨(fc i (by omega)).2,(hk i (by omega)).2.2.2.1⟩
  | struct fs =>
   obtain⟨xs,m,hm,rfl,hl,hxl,hx⟩:=DataW.trod_struct hu h;obtain rfl:n=m:=by omega
   simp only[DataW.weights,hu]at yD;rw[hu]at Fi;simp only[aG]at Fi;obtain⟨cI,a1,a2,a3⟩:=VG (w:=w) (n:=n) hl fs.toList 0 Fi.1 λf hf=>by
    obtain⟨i,hi,e⟩:=n6 hf;have h1:=hx i f (by simp at hi;simp[hi];simpa using e);rw[ax (by simp at hi;omega)]at h1;obtain⟨cI,q1,q2,q3,_⟩:=ih f.type _ _ (by simpa using(bu.1 Fi.2) f hf) h1 λn hn=>yD n (DataW.weights_mem_each (j:=i) (by rw[cE,ax hi,e];rfl) (by rw[cE,ax (by simp at hi;omega)];rfl) n hn);exact⟨cI,q1,q2,q3⟩
   refine⟨cI,by omega,λk hk=>by simpa using a2 k hk,?_,λha=>by simp[jV,hu,td]at ha⟩;simp only[n8,hu];exact⟨by omega,λf hf=>by simpa using(a3 f hf).2⟩
  |_=>exact other λcI=>by simp[n8,hu]
end
end Go.dq
