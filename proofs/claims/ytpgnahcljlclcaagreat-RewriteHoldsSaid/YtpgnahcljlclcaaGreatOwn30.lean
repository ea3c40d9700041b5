/- Part 30 of my own framework and of the walks of functions: AcsE. -/
import Derived.Test.YtpgnahcljlclcaaGreatOwn29
import Derived.ChangeArms
import Derived.ProofKit
import Derived.SizedLaws
set_option linter.unusedVariables false
set_option linter.unusedSectionVars false
set_option linter.unusedSimpArgs false
namespace Go.Abs
open Go
def aggOf (P:Program) (t:TypeId):Bool :=
 match P.underlying t with
 | some u=>aggD u
 | none=>false
def TyT (P:Program):Nat→TypeId→List AVal→Prop
 | 0,_,_=>False
 | n+1,t,as_=>match P.underlying t with
  | some .bool=>∃ b,as_=[.bool b]
  | some (.int k)=>∃ i,as_=[.int k i]∧(Lit.int k i).wf=true
  | some .string=>∃ s:ByteArray,as_=[.str s]∧s.size≤reachBytes
  | some (.slice e)=>∃ es,as_=[.ps (P.cellsOf e) es]∧(es.length≤maxLen∧es.length*P.bytesOf e≤reachBytes)∧∀ x∈es,isAggA x=aggOf P e∧TyT P n e x.cells
  | some (.struct fs)=>as_.length=P.cellsOf t∧∀ f∈fs.toList,TyT P n f.type ((as_.drop f.offset).take (P.cellsOf f.type))
  | _=>True
def contIn (P:Program):List Field→Nat→Nat→Bool
 | [],o,n=>o==n
 | f :: fs,o,n=>f.offset==o&&contIn P fs (o+P.cellsOf f.type) n
def closedOk (P:Program) (S:List TypeId):Bool:=S.all fun t=>match P.underlying t with
 | some (.struct fs)=>contIn P fs.toList 0 (P.cellsOf t)&&fs.toList.all fun f=>S.contains f.type
 | some (.slice e)=>S.contains e&&decide (0<P.cellsOf e)&&(aggOf P e||P.cellsOf e==1)
 | _=>true
def noM:Nat→Nat→Prop:=fun _ _=>False
def noB:Env:=fun _=>none
section
variable {P:Program} {w:World} {H:Type} {enc:TypeId×Value→H} {base:Nat} {spare:Nat→Bool} {held:Bool}
theorem Ze8 {a:Addr} {n:Nat} {cs:List Value} (h:w.cells? base a n=some cs):cs.length=n∧∀ i,i<n→w.cell? (a.add i)=some (cs.getD i undef):=by
 unfold World.cells? at h
 split at h
 ·have hl:=mapM_some_length h
  refine ⟨by simpa using hl,fun i hi=>?_⟩
  have:=mapM_some_get h i i (by simp [hi])
  rw [this]
  have:i<cs.length:=by simp at hl;omega
  simp [List.getD,this]
 ·cases h
theorem Znt {x:AVal} (h:isAggA x=false):x.cells=[x]:=by cases x<;>simp_all [AVal.cells,isAggA]
theorem Zvn {cs:List Value}:∃ as_:List AVal,as_.length=cs.length∧(∀ k,k<cs.length→Rep w noM noB (cs.getD k undef) (as_.getD k .undef))∧∀ x∈as_,x = .undef :=
 ⟨List.replicate cs.length .undef,by simp,fun k hk=>by simp [List.getD,hk];exact .undef _,fun x hx=>by simp at hx;exact hx.2⟩
theorem Zpe:∀ (fs:List Field) (o N:Nat),contIn P fs o N=true→o≤N
 | [],o,N,h=>by simp [contIn] at h;omega
 | f :: fs,o,N,h=>by
  simp only [contIn,Bool.and_eq_true] at h
  have:=Zpe fs _ N h.2
  omega
theorem Zk7 {cs:List Value} {n N:Nat} (hN:cs.length=N):∀ (fs:List Field) (o:Nat),contIn P fs o N=true →
  (∀ f∈fs, ∃ as_:List AVal,as_.length=((cs.drop f.offset).take (P.cellsOf f.type)).length∧(∀ k,k<as_.length→Rep w noM noB (((cs.drop f.offset).take (P.cellsOf f.type)).getD k undef) (as_.getD k .undef))∧TyT P n f.type as_) →
  ∃ as_:List AVal,as_.length=N - o∧(∀ k,k<as_.length→Rep w noM noB (cs.getD (o+k) undef) (as_.getD k .undef))∧∀ f∈fs,o≤f.offset∧TyT P n f.type ((as_.drop (f.offset - o)).take (P.cellsOf f.type))
 | [],o,h,_=>by
  simp [contIn] at h
  exact ⟨[],by simp;omega,fun k hk=>by simp at hk,fun f hf=>by simp at hf⟩
 | f :: fs,o,h,hf=>by
  simp only [contIn,Bool.and_eq_true,beq_iff_eq] at h
  obtain ⟨rfl,h⟩:=h
  have hle:=Zpe fs _ N h
  obtain ⟨as1,a1,a2,a3⟩:=hf f (by simp)
  obtain ⟨as2,b1,b2,b3⟩:=Zk7 hN fs _ h fun g hg=>hf g (by simp [hg])
  have hl1:as1.length=P.cellsOf f.type:=by rw [a1];simp;omega
  refine ⟨as1++as2,by simp;omega,fun k hk=>?_,fun g hg=>?_⟩
  ·rw [Zak]
   split
   ·rename_i hlt
    have:=a2 k hlt
    have e:((cs.drop f.offset).take (P.cellsOf f.type)).getD k undef=cs.getD (f.offset+k) undef:=by
     simp [List.getD,List.getElem?_take,show k<P.cellsOf f.type by omega]
    rw [e] at this;exact this
   ·rename_i hge
    have:=b2 (k - as1.length) (by simp at hk;omega)
    rw [show f.offset+P.cellsOf f.type+(k - as1.length)=f.offset+k by omega] at this
    exact this
  ·rcases List.mem_cons.1 hg with rfl | hg
   ·refine ⟨Nat.le_refl _,?_⟩
    rw [Nat.sub_self,List.drop_zero,← hl1,List.take_left];exact a3
   ·obtain ⟨c1,c2⟩:=b3 g hg
    refine ⟨by omega,?_⟩
    rw [List.drop_append,List.drop_eq_nil_of_le (by omega),List.nil_append,show g.offset - f.offset - as1.length=g.offset - (f.offset+P.cellsOf f.type) by omega]
    exact c2
theorem Zrw {e:TypeId} {l:List (DataW H)} {d:DataW H} (h:d∈l):∀ n∈d.weights P e,n∈DataW.weightsAll P e l:=by
 induction l with
 | nil=>cases h
 | cons x l ih =>
  intro n hn
  simp only [DataW.weightsAll,List.mem_append]
  rcases List.mem_cons.1 h with rfl | h
  ·exact .inl hn
  ·exact .inr (ih h n hn)
theorem Yak {S:List TypeId} (hC:closedOk P S=true):∀ (fuel:Nat) (t:TypeId) (cs:List Value) (x:DataW H×List MemPlace),t∈S→DataW.trod enc P w base spare held fuel t cs=some x→(∀ n∈x.1.weights P t,n≤reachBytes) →
  ∃ as_:List AVal,as_.length=cs.length∧(∀ k,k<as_.length→Rep w noM noB (cs.getD k undef) (as_.getD k .undef))∧TyT P fuel t as_∧(aggOf P t=false→as_.length=1→∃ y,as_=[y]∧isAggA y=false):=by
 intro fuel
 induction fuel with
 | zero=>intro t cs x _ h;simp [DataW.trod] at h
 | succ n ih =>
  intro t cs x hS h hwt
  have hCt:=(List.all_eq_true.1 hC) t hS
  have one:∀ (v:Value) (y:AVal),cs=[v]→Rep w noM noB v y→TyT P (n+1) t [y]→isAggA y=false→∃ as_:List AVal,as_.length=cs.length∧(∀ k,k<as_.length→Rep w noM noB (cs.getD k undef) (as_.getD k .undef))∧TyT P (n+1) t as_∧(aggOf P t=false→as_.length=1→∃ y,as_=[y]∧isAggA y=false):=by
   rintro v y rfl h1 h2 h3
   refine ⟨[y],rfl,fun k hk=>?_,h2,fun _ _=>⟨y,rfl,h3⟩⟩
   have:k=0:=by simpa using hk
   subst this;exact h1
  have other:(∀ as_,TyT P (n+1) t as_)→∃ as_:List AVal,as_.length=cs.length∧(∀ k,k<as_.length→Rep w noM noB (cs.getD k undef) (as_.getD k .undef))∧TyT P (n+1) t as_∧(aggOf P t=false→as_.length=1→∃ y,as_=[y]∧isAggA y=false):=by
   intro hT
   obtain ⟨as_,h1,h2,h3⟩:=Zvn (w:=w) (cs:=cs)
   refine ⟨as_,h1,fun k hk=>h2 k (by omega),hT as_,fun _ hl=>?_⟩
   match as_,hl with
   | [y],_=>exact ⟨y,rfl,by rw [h3 y (by simp)];rfl⟩
  cases hu:P.underlying t with
  | none=>exact other fun as_=>by simp [TyT,hu]
  | some u =>
  cases u with
  | bool =>
   obtain ⟨b,rfl,_⟩:=DataW.trod_bool hu h
   exact one _ (.bool b) rfl (.bool b) (by simp [TyT,hu]) rfl
  | int kd =>
   obtain ⟨i,rfl,_,hw⟩:=DataW.trod_int hu h
   exact one _ (.int kd i) rfl (.int kd i) (by simp [TyT,hu,hw]) rfl
  | string =>
   obtain ⟨s,rfl,rfl,hs⟩:=DataW.trod_string hu h
   have hs':s.size≤reachBytes:=by
    have:=hwt s.data.toList.length (by simp [DataW.weights])
    rw [Array.length_toList] at this;exact this
   exact one _ (.str s) rfl (.str s) (by simp [TyT,hu,hs']) rfl
  | slice e =>
   rcases DataW.trod_slice hu h with ⟨rfl,_⟩ | ⟨a,len,cap,elems,rest,m,hm,rfl,hx1,_,hl,hcap,hlen,hel,_,_⟩
   ·refine one _ (.ps (P.cellsOf e) []) rfl (Rep.ps (es:=[]) (fun _ _=>undef) (by simp) (fun i hi=>absurd hi (by simp)) (fun i j hi=>absurd hi (by simp)) (fun h0=>absurd h0 (by simp)) (fun i j hi=>absurd hi (by simp))) ?_ rfl
    simp [TyT,hu]
   ·obtain rfl:n=m:=by omega
    subst hx1
    simp only [DataW.weights,hu,List.length_map] at hwt
    rw [hu] at hCt
    simp only [Bool.and_eq_true,decide_eq_true_eq,Bool.or_eq_true,beq_iff_eq] at hCt
    obtain ⟨⟨heS,hpos⟩,hone⟩:=hCt
    have heS:e∈S:=by simpa using heS
    have key:∀ i,i<len→∃ (ec:List Value) (as_:List AVal),w.cells? base (a.add (i*P.cellsOf e)) (P.cellsOf e)=some ec∧as_.length=ec.length∧(∀ k,k<as_.length→Rep w noM noB (ec.getD k undef) (as_.getD k .undef))∧TyT P n e as_∧(aggOf P e=false→as_.length=1→∃ y,as_=[y]∧isAggA y=false):=by
     intro i hi
     have h1:=hel i hi
     rw [List.getElem?_eq_getElem (by omega)] at h1
     obtain ⟨ec,h2,h3⟩:=Option.bind_eq_some_iff.1 h1
     obtain ⟨as_,q1,q2,q3,q4⟩:=ih e ec _ heS h3 fun n hn=>hwt n (List.mem_cons_of_mem _ (List.mem_append_left _ (Zrw (List.mem_map.2 ⟨_,List.getElem_mem _,rfl⟩) n hn)))
     exact ⟨ec,as_,h2,q1,q2,q3,q4⟩
    have hspot : 0<len→a.spot=none:=fun h0=>by
     obtain ⟨ec,as_,q1,_⟩:=key 0 h0
     have:=(Ze8 q1).2 0 hpos
     simp only [Nat.zero_mul,Addr.add,if_true] at this
     simp only [World.cell?] at this
     split at this
     ·cases hs:a.spot with
      | none=>rfl
      | some z=>rw [hs] at this;simp at this
     ·cases this
    let ec:Nat→List Value:=fun i=>if h:i<len then Classical.choose (key i h) else []
    let el:Nat→List AVal:=fun i=>if h:i<len then Classical.choose (Classical.choose_spec (key i h)) else []
    have hk:∀ i,i<len→w.cells? base (a.add (i*P.cellsOf e)) (P.cellsOf e)=some (ec i)∧(el i).length=(ec i).length∧(∀ k,k<(el i).length→Rep w noM noB ((ec i).getD k undef) ((el i).getD k .undef))∧TyT P n e (el i)∧(aggOf P e=false→(el i).length=1→∃ y,el i=[y]∧isAggA y=false):=by
     intro i hi
     simp only [ec,el,dif_pos hi]
     exact Classical.choose_spec (Classical.choose_spec (key i hi))
    generalize ec=ec at hk
    generalize el=el at hk
    let es:List AVal:=(List.range len).map fun i=>if aggOf P e=true then .agg (el i) else (el i).headD .undef
    have hes:es.length=len:=by simp [es]
    have hget:∀ i,i<len→(es.getD i .undef).cells=el i∧isAggA (es.getD i .undef)=aggOf P e:=by
     intro i hi
     have e1:es.getD i .undef=if aggOf P e=true then .agg (el i) else (el i).headD .undef:=by simp [es,List.getD,hi]
     rw [e1]
     obtain ⟨q1,q2,_,_,q5⟩:=hk i hi
     have hlen':=(Ze8 q1).1
     cases ha:aggOf P e with
     | true=>exact ⟨rfl,rfl⟩
     | false =>
      rw [ha] at hone
      obtain ⟨y,hy,hy2⟩:=q5 ha (by rw [q2,hlen'];simpa using hone)
      rw [hy]
      simp only [Bool.false_eq_true,if_false,List.headD_cons]
      exact ⟨Znt hy2,hy2⟩
    have hrep:Rep w noM noB (.slice (some a) es.length cap) (.ps (P.cellsOf e) es):=by
     refine Rep.ps (fun i j=>(ec i).getD j undef) (by omega) (fun i hi=>?_) (fun i j hi hj=>?_) (fun h0=>⟨a.block,a.off,?_⟩) (fun i j hi hj=>?_)
     ·rw [(hget i (by omega)).1,(hk i (by omega)).2.1];exact (Ze8 (hk i (by omega)).1).1
     ·have hsp:=hspot (by omega)
      obtain ⟨q1,_⟩:=hk i (by omega)
      have hc:=(Ze8 q1).2 j hj
      refine ⟨a.block,a.off,?_,?_,fun h=>h⟩
      ·cases a;simp at hsp;subst hsp;rfl
      ·rw [← hc]
       cases a with
       | mk g o sp =>
        simp only at hsp;subst hsp
        simp only [Addr.add]
        split<;>split<;>simp_all<;>omega
     ·have hsp:=hspot (by omega)
      cases a;simp at hsp;subst hsp;rfl
     ·obtain ⟨_,q2,q3,_⟩:=hk i (by omega)
      rw [(hget i (by omega)).1]
      exact q3 j (by rw [q2,(Ze8 (hk i (by omega)).1).1];exact hj)
    rw [hes] at hrep
    refine one _ _ rfl hrep ?_ rfl
    simp only [TyT,hu]
    refine ⟨es,rfl,⟨by omega,?_⟩,fun x hx=>?_⟩
    ·rw [hes,← hlen]
     exact Nat.le_trans (Nat.mul_le_mul_right _ (Nat.le_add_right _ _)) (hwt _ List.mem_cons_self)
    obtain ⟨i,hi,e1⟩:=List.getElem_of_mem hx
    have:es.getD i .undef=x:=by simp [List.getD,hi,e1]
    rw [← this,(hget i (by omega)).1]
    exact ⟨(hget i (by omega)).2,(hk i (by omega)).2.2.2.1⟩
  | struct fs =>
   obtain ⟨xs,m,hm,rfl,hl,hxl,hx⟩:=DataW.trod_struct hu h
   obtain rfl:n=m:=by omega
   simp only [DataW.weights,hu] at hwt
   rw [hu] at hCt
   simp only [Bool.and_eq_true] at hCt
   obtain ⟨as_,a1,a2,a3⟩:=Zk7 (w:=w) (n:=n) hl fs.toList 0 hCt.1 fun f hf=>by
    obtain ⟨i,hi,e⟩:=List.getElem_of_mem hf
    have h1:=hx i f (by simp at hi;simp [hi];simpa using e)
    rw [List.getElem?_eq_getElem (by simp at hi;omega)] at h1
    obtain ⟨as_,q1,q2,q3,_⟩:=ih f.type _ _ (by simpa using (List.all_eq_true.1 hCt.2) f hf) h1 fun n hn=>hwt n (DataW.weights_mem_each (j:=i) (by rw [List.getElem?_map,List.getElem?_eq_getElem hi,e];rfl) (by rw [List.getElem?_map,List.getElem?_eq_getElem (by simp at hi;omega)];rfl) n hn)
    exact ⟨as_,q1,q2,q3⟩
   refine ⟨as_,by omega,fun k hk=>by simpa using a2 k hk,?_,fun ha=>by simp [aggOf,hu,aggD] at ha⟩
   simp only [TyT,hu]
   exact ⟨by omega,fun f hf=>by simpa using (a3 f hf).2⟩
  | _=>exact other fun as_=>by simp [TyT,hu]
end
end Go.Abs
