/- Part 32 of my own framework and of the walks of functions: AcsG. -/
import Derived.Test.YtfjbdamcmiglgaaGreatOwn31
import Derived.ChangeOld
import Derived.OpenShut
set_option linter.unusedVariables false
set_option linter.unusedSectionVars false
set_option linter.unusedSimpArgs false
namespace Go.c8
open Go Go.ChangeShapes Go.WideShapes
section
variable {P:Program} {W W':World} {H:Type} {enc:TypeId×Value→H}
def zS (P:Program) (t:TypeId) (a:ae):Prop:=cN a=jc P t∧∃ n,mH P n t a.cells
theorem Zzb {S:List TypeId} (hC:ng P S=true) {t:TypeId} (ht:t∈S) (h1:jc P t=true∨(∃ k,P.underlying t=some (.int k))∨P.underlying t=some .bool∨P.underlying t=some .string∨∃ e,P.underlying t=some (.slice e)) {base b0:Nat} {sp:Nat→Bool} {hd:Bool} {v:Value} {d:DataW H} {p:List MemPlace}
  (hv:Value.okWide P W .any b0 t v) (h:DataW.Trod enc P W base sp hd t v d p) (wB:∀ n∈d.weights P t,n≤reachBytes):∃ a,bS W rU sH v a∧zS P t a:=by
 obtain ⟨fuel,hf⟩:=h
 obtain ⟨cm,q1,q2,q3,q4⟩:=ZJ hC fuel t _ _ ht hf wB
 cases pO:jc P t with
 | true =>
  have:∃ cs:Array Value,v = .agg cs:=by
   unfold jc at pO
   unfold Value.okWide at hv
   cases hu:P.underlying t with
   | none=>rw [hu] at pO;cases pO
   | some u =>
    rw [hu] at pO hv
    cases u<;>simp only [qM] at pO<;>try cases pO
    ·obtain ⟨cs,h,_⟩:=hv;exact ⟨cs,h⟩
    ·obtain ⟨cs,h,_⟩:=hv;exact ⟨cs,h⟩
  obtain ⟨cs,rfl⟩:=this
  refine ⟨.agg cm, .agg (by simpa [Value.cells] using q1.symm) (fun k hk=>?_),by rw [pO];rfl,fuel,q3⟩
  have:=q2 k hk
  simpa [Value.cells] using this
 | false =>
  rw [pO] at h1
  have np:∀ x:Value,v.cells.toList=[x]→v=x→cm.length=1→∃ a,bS W rU sH v a∧zS P t a:=by
   intro x hx hvx hl
   obtain ⟨y,rfl,hy⟩:=q4 pO hl
   refine ⟨y,?_,by rw [hy,pO],fuel,by rw [SK hy];exact q3⟩
   have:=q2 0 (by simp)
   rw [hx] at this
   rw [hvx];simpa using this
  rcases h1 with h1 | ⟨k,hu⟩ | hu | hu | ⟨e,hu⟩
  ·cases h1
  ·obtain ⟨n,rfl⟩:=okWide_int hu hv
   exact np _ rfl rfl (by rw [q1];rfl)
  ·obtain ⟨n,rfl⟩:=okWide_bool hu hv
   exact np _ rfl rfl (by rw [q1];rfl)
  ·obtain ⟨n,rfl⟩:=okWide_string hu hv
   exact np _ rfl rfl (by rw [q1];rfl)
  ·obtain ⟨a,l,c,rfl⟩:=okWide_slice hu hv
   exact np _ rfl rfl (by rw [q1];rfl)
def CK (P:Program) (t:TypeId):Bool:=jc P t||match P.underlying t with
 | some (.int _) | some .bool | some .string | some (.slice _)=>true
 | _=>false
theorem Yie {t:TypeId} (h:CK P t=true):jc P t=true∨(∃ k,P.underlying t=some (.int k))∨P.underlying t=some .bool∨P.underlying t=some .string∨∃ e,P.underlying t=some (.slice e):=by
 simp only [CK,b9] at h
 rcases h with h | h
 ·exact .inl h
 ·refine .inr ?_
  split at h
  ·rename_i k hu;exact .inl ⟨k,hu⟩
  ·rename_i hu;exact .inr (.inl hu)
  ·rename_i hu;exact .inr (.inr (.inl hu))
  ·rename_i e hu;exact .inr (.inr (.inr ⟨e,hu⟩))
  ·cases h
theorem KU {S:List TypeId} (hC:ng P S=true) {b0 base:Nat} {sp:Nat→Bool} {hd:Bool}:∀ (ts:List TypeId) (vs:List Value) (ds:List (DataW H)) (p:List MemPlace),DataW.TrodAll enc P W base sp hd ts vs ds p →
  (ts.all fun t=>S.contains t&&CK P t)=true→(∀ (j:Nat) t v,ts[j]? = some t→vs[j]? = some v→Value.okWide P W .any b0 t v)→(∀ n∈DataW.weightsEach P ts ds,n≤reachBytes) →
  ∃ cm:List ae,vs.length=cm.length∧(∀ k,k<cm.length→bS W rU sH (vs.getD k undef) (cm.getD k .undef))∧cm.length=ts.length∧∀ (j:Nat) t,ts[j]? = some t→zS P t (cm.getD j .undef)
 | [],[],[],_,_,_,_,_=>⟨[],rfl,fun k hk=>absurd hk (by simp),rfl,fun j t h=>by simp at h⟩
 | t :: ts,v :: vs,d :: ds,p,h,hS,hv,wB=>by
  obtain ⟨p1,q1,h1,h2,_⟩:=h
  simp only [DataW.weightsEach,aW] at wB
  simp only [j8,aC] at hS
  obtain ⟨cm,a1,a2,a3,a4⟩:=KU hC ts vs ds q1 h2 (by simpa using hS.2) (fun j t v e1 e2=>hv (j+1) t v (by simpa using e1) (by simpa using e2)) fun n hn=>wB n (.inr hn)
  obtain ⟨a,b1,b2⟩:=Zzb hC (by simpa using hS.1.1) (Yie hS.1.2) (hv 0 t v rfl rfl) h1 fun n hn=>wB n (.inl hn)
  refine ⟨a :: cm,by simp [a1],fun k hk=>?_,by simp [a3],fun j t' hj=>?_⟩
  ·cases k with
   | zero=>exact b1
   | succ k=>exact a2 k (by simpa using hk)
  ·cases j with
   | zero=>simp at hj;subst hj;exact b2
   | succ j=>exact a4 j t' (by simpa using hj)
 | [],[],_ :: _,_,h,_,_,_=>by simp [DataW.TrodAll] at h
 | [],_ :: _,_,_,h,_,_,_=>by simp [DataW.TrodAll] at h
 | _ :: _,[],_,_,h,_,_,_=>by simp [DataW.TrodAll] at h
 | _ :: _,_ :: _,[],_,h,_,_,_=>by simp [DataW.TrodAll] at h
theorem KE (hl:laidOutB P=true) (hb:RowKit.Below W.heap.size W W'):∀ (ts:List TypeId) (vs:List Value) (ds:List (DataW H)) (p:List MemPlace),DataW.TrodAll enc P W 0 (fun _=>true) true ts vs ds p →
  (ts.all fun t=>P.readableRec t&&decide (t<P.types.size))=true→DataW.TrodAll enc P W' 0 (fun b=>decide (b<W.heap.size)) true ts vs ds p
 | [],[],[],_,h,_=>h
 | t :: ts,v :: vs,d :: ds,p,h,hS=>by
  obtain ⟨p1,q1,h1,h2,e⟩:=h
  simp only [j8,aC,decide_eq_true_eq] at hS
  refine ⟨p1,q1,RowKit.Below.trod hl hS.1.1 hS.1.2 h1 hb ?_,KE hl hb ts vs ds q1 h2 (by simpa using hS.2),e⟩
  obtain ⟨m,hm⟩:=h1
  exact DataW.trod_lt m _ _ _ hm
 | [],[],_ :: _,_,h,_=>by simp [DataW.TrodAll] at h
 | [],_ :: _,_,_,h,_=>by simp [DataW.TrodAll] at h
 | _ :: _,[],_,_,h,_=>by simp [DataW.TrodAll] at h
 | _ :: _,_ :: _,[],_,h,_=>by simp [DataW.TrodAll] at h
theorem qc {base:Nat} {sp:Nat→Bool} {hd:Bool}:∀ (ts:List TypeId) (vs:List Value) (ds:List (DataW H)) (p:List MemPlace),DataW.TrodAll enc P W base sp hd ts vs ds p→ds.length=ts.length
 | [],[],[],_,_=>rfl
 | t :: ts,v :: vs,d :: ds,p,h=>by
  obtain ⟨p1,q1,_,h2,_⟩:=h
  simp [qc ts vs ds q1 h2]
 | [],[],_ :: _,_,h=>by simp [DataW.TrodAll] at h
 | [],_ :: _,_,_,h=>by simp [DataW.TrodAll] at h
 | _ :: _,[],_,_,h=>by simp [DataW.TrodAll] at h
 | _ :: _,_ :: _,[],_,h=>by simp [DataW.TrodAll] at h
end
end Go.c8
