/- Part 32 of my own framework and of the walks of functions: AcsG. -/
import Derived.Test.YtfjbdamcmiglgaaGreatOwn31
import Derived.ChangeOld
import Derived.OpenShut
set_option linter.unusedVariables false
set_option linter.unusedSectionVars false
set_option linter.unusedSimpArgs false
namespace Go.cV
open Go Go.ChangeShapes Go.WideShapes
section
variable {P:Program} {W W':World} {H:Type} {enc:TypeId×Value→H}
def zF (P:Program) (t:TypeId) (a:ae):Prop:=cL a=iR P t∧∃ n,mq P n t a.cells
theorem Zzx {S:List TypeId} (hC:mS P S=true) {t:TypeId} (ht:t∈S) (h1:iR P t=true∨(∃ k,P.underlying t=some (.int k))∨P.underlying t=some .bool∨P.underlying t=some .string∨∃ e,P.underlying t=some (.slice e)) {base b0:Nat} {sp:Nat→Bool} {hd:Bool} {v:Value} {d:DataW H} {p:List MemPlace}
  (hv:Value.okWide P W .any b0 t v) (h:DataW.Trod enc P W base sp hd t v d p) (wi:∀ n∈d.weights P t,n≤reachBytes):∃ a,bR W rJ sr v a∧zF P t a:=by
 obtain ⟨fuel,hf⟩:=h
 obtain ⟨ck,q1,q2,q3,q4⟩:=Y4 hC fuel t _ _ ht hf wi
 cases pG:iR P t with
 | true =>
  have:∃ cs:Array Value,v = .agg cs:=by
   unfold iR at pG
   unfold Value.okWide at hv
   cases hu:P.underlying t with
   | none=>rw [hu] at pG;cases pG
   | some u =>
    rw [hu] at pG hv
    cases u<;>simp only [qD] at pG<;>try cases pG
    ·obtain ⟨cs,h,_⟩:=hv;exact ⟨cs,h⟩
    ·obtain ⟨cs,h,_⟩:=hv;exact ⟨cs,h⟩
  obtain ⟨cs,rfl⟩:=this
  refine ⟨.agg ck, .agg (by simpa [Value.cells] using q1.symm) (fun k hk=>?_),by rw [pG];rfl,fuel,q3⟩
  have:=q2 k hk
  simpa [Value.cells] using this
 | false =>
  rw [pG] at h1
  have m0:∀ x:Value,v.cells.toList=[x]→v=x→ck.length=1→∃ a,bR W rJ sr v a∧zF P t a:=by
   intro x hx hvx hl
   obtain ⟨y,rfl,hy⟩:=q4 pG hl
   refine ⟨y,?_,by rw [hy,pG],fuel,by rw [Sx hy];exact q3⟩
   have:=q2 0 (by simp)
   rw [hx] at this
   rw [hvx];simpa using this
  rcases h1 with h1 | ⟨k,hu⟩ | hu | hu | ⟨e,hu⟩
  ·cases h1
  ·obtain ⟨n,rfl⟩:=okWide_int hu hv
   exact m0 _ rfl rfl (by rw [q1];rfl)
  ·obtain ⟨n,rfl⟩:=okWide_bool hu hv
   exact m0 _ rfl rfl (by rw [q1];rfl)
  ·obtain ⟨n,rfl⟩:=okWide_string hu hv
   exact m0 _ rfl rfl (by rw [q1];rfl)
  ·obtain ⟨a,l,c,rfl⟩:=okWide_slice hu hv
   exact m0 _ rfl rfl (by rw [q1];rfl)
def Cy (P:Program) (t:TypeId):Bool:=iR P t||match P.underlying t with
 | some (.int _) | some .bool | some .string | some (.slice _)=>true
 | _=>false
theorem XF {t:TypeId} (h:Cy P t=true):iR P t=true∨(∃ k,P.underlying t=some (.int k))∨P.underlying t=some .bool∨P.underlying t=some .string∨∃ e,P.underlying t=some (.slice e):=by
 simp only [Cy,b9] at h
 rcases h with h | h
 ·exact .inl h
 ·refine .inr ?_
  split at h
  ·rename_i k hu;exact .inl ⟨k,hu⟩
  ·rename_i hu;exact .inr (.inl hu)
  ·rename_i hu;exact .inr (.inr (.inl hu))
  ·rename_i e hu;exact .inr (.inr (.inr ⟨e,hu⟩))
  ·cases h
theorem Kh {S:List TypeId} (hC:mS P S=true) {b0 base:Nat} {sp:Nat→Bool} {hd:Bool}:∀ (ts:List TypeId) (vs:List Value) (ds:List (DataW H)) (p:List MemPlace),DataW.TrodAll enc P W base sp hd ts vs ds p →
  (ts.all fun t=>S.contains t&&Cy P t)=true→(∀ (j:Nat) t v,ts[j]? = some t→vs[j]? = some v→Value.okWide P W .any b0 t v)→(∀ n∈DataW.weightsEach P ts ds,n≤reachBytes) →
  ∃ ck:List ae,vs.length=ck.length∧(∀ k,k<ck.length→bR W rJ sr (vs.getD k undef) (ck.getD k .undef))∧ck.length=ts.length∧∀ (j:Nat) t,ts[j]? = some t→zF P t (ck.getD j .undef)
 | [],[],[],_,_,_,_,_=>⟨[],rfl,fun k hk=>absurd hk (by simp),rfl,fun j t h=>by simp at h⟩
 | t :: ts,v :: vs,d :: ds,p,h,hS,hv,wi=>by
  obtain ⟨p1,q1,h1,h2,_⟩:=h
  simp only [DataW.weightsEach,aX] at wi
  simp only [jS,aD] at hS
  obtain ⟨ck,a1,a2,a3,a4⟩:=Kh hC ts vs ds q1 h2 (by simpa using hS.2) (fun j t v e1 e2=>hv (j+1) t v (by simpa using e1) (by simpa using e2)) fun n hn=>wi n (.inr hn)
  obtain ⟨a,b1,b2⟩:=Zzx hC (by simpa using hS.1.1) (XF hS.1.2) (hv 0 t v rfl rfl) h1 fun n hn=>wi n (.inl hn)
  refine ⟨a :: ck,by simp [a1],fun k hk=>?_,by simp [a3],fun j t' hj=>?_⟩
  ·cases k with
   | zero=>exact b1
   | succ k=>exact a2 k (by simpa using hk)
  ·cases j with
   | zero=>simp at hj;subst hj;exact b2
   | succ j=>exact a4 j t' (by simpa using hj)
 | [],[],_ :: _,_,h,_,_,_=>by simp [DataW.TrodAll] at h
 | [],_ :: _,_,_,h,_,_,_=>by simp [DataW.TrodAll] at h
 | _ :: _,[],_,_,h,_,_,_=>by simp [DataW.TrodAll] at h
 | _ :: _,_ :: _,[],_,h,_,_,_=>by simp [DataW.TrodAll] at h
theorem Ka (hl:laidOutB P=true) (hb:RowKit.Below W.heap.size W W'):∀ (ts:List TypeId) (vs:List Value) (ds:List (DataW H)) (p:List MemPlace),DataW.TrodAll enc P W 0 (fun _=>true) true ts vs ds p →
  (ts.all fun t=>P.readableRec t&&decide (t<P.types.size))=true→DataW.TrodAll enc P W' 0 (fun b=>decide (b<W.heap.size)) true ts vs ds p
 | [],[],[],_,h,_=>h
 | t :: ts,v :: vs,d :: ds,p,h,hS=>by
  obtain ⟨p1,q1,h1,h2,e⟩:=h
  simp only [jS,aD,decide_eq_true_eq] at hS
  refine ⟨p1,q1,RowKit.Below.trod hl hS.1.1 hS.1.2 h1 hb ?_,Ka hl hb ts vs ds q1 h2 (by simpa using hS.2),e⟩
  obtain ⟨m,hm⟩:=h1
  exact DataW.trod_lt m _ _ _ hm
 | [],[],_ :: _,_,h,_=>by simp [DataW.TrodAll] at h
 | [],_ :: _,_,_,h,_=>by simp [DataW.TrodAll] at h
 | _ :: _,[],_,_,h,_=>by simp [DataW.TrodAll] at h
 | _ :: _,_ :: _,[],_,h,_=>by simp [DataW.TrodAll] at h
theorem p5 {base:Nat} {sp:Nat→Bool} {hd:Bool}:∀ (ts:List TypeId) (vs:List Value) (ds:List (DataW H)) (p:List MemPlace),DataW.TrodAll enc P W base sp hd ts vs ds p→ds.length=ts.length
 | [],[],[],_,_=>rfl
 | t :: ts,v :: vs,d :: ds,p,h=>by
  obtain ⟨p1,q1,_,h2,_⟩:=h
  simp [p5 ts vs ds q1 h2]
 | [],[],_ :: _,_,h=>by simp [DataW.TrodAll] at h
 | [],_ :: _,_,_,h=>by simp [DataW.TrodAll] at h
 | _ :: _,[],_,_,h=>by simp [DataW.TrodAll] at h
 | _ :: _,_ :: _,[],_,h=>by simp [DataW.TrodAll] at h
end
end Go.cV
