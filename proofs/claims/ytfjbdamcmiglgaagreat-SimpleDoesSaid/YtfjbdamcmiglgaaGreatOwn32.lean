/- Part 32 of what the claim rests on. -/
import Derived.Test.YtfjbdamcmiglgaaGreatOwn31
import Derived.ChangeOld
import Derived.OpenShut
set_option linter.all false
namespace Go.dq
open Go Go.ChangeShapes Go.WideShapes
section
variable {P:Program}{W W':World}{H:Type}{enc:TypeId×Value->H}
def Co (P:Program)(t:TypeId)(a:ah):Prop:=c_ a=jV P t/\∃n,n8 P n t a.cells
theorem Yd7 {S:List TypeId} (hC:oL P S=true) {t:TypeId} (ht:t∈S) (h1:jV P t=true\/(∃k,P.underlying t=some (.int k))\/P.underlying t=some .bool\/P.underlying t=some .string\/∃e,P.underlying t=some (.slice e)) {base b0:Nat} {sp:Nat->Bool} {hd:Bool} {v:Value} {d:DataW H} {p:List MemPlace}
  (hv:Value.okWide P W .any b0 t v) (h:DataW.Trod enc P W base sp hd t v d p) (yD:∀n∈d.weights P t,n<=reachBytes):∃a,cn W ux vd v a/\Co P t a:=by
 obtain⟨fuel,hf⟩:=h;obtain⟨cI,q1,q2,q3,q4⟩:=Yht hC fuel t _ _ ht hf yD;cases rz:jV P t with
 | true =>
  have:∃cs:Array Value,v=.agg cs:=by
   unfold jV at rz;unfold Value.okWide at hv;cases hu:P.underlying t with
   |none=>rw[hu]at rz;cases rz
   |some u =>
    rw[hu]at rz hv;cases u<;>simp only[td]at rz<;>try cases rz
    ·obtain⟨cs,h,_⟩:=hv;exact⟨cs,h⟩
    ·obtain⟨cs,h,_⟩:=hv;exact⟨cs,h⟩
  obtain⟨cs,rfl⟩:=this;refine⟨.agg cI,.agg (by simpa[Value.cells] using q1.symm) (λk hk=>?_),by rw[rz];rfl,fuel,q3⟩;have:=q2 k hk;simpa[Value.cells] using this
 | false =>
  rw[rz]at h1;have oQ:∀x:Value,v.cells.toList=[x]->v=x->cI.length=1->∃a,cn W ux vd v a/\Co P t a:=by
   intro x hx hvx hl;obtain⟨y,rfl,hy⟩:=q4 rz hl;refine⟨y,?_,by rw[hy,rz],fuel,by rw[X8 hy];exact q3⟩;have:=q2 0 (by simp);rw[hx]at this;rw[hvx];simpa using this
  rcases h1 with h1|⟨k,hu⟩|hu|hu|⟨e,hu⟩
  ·cases h1
  ·obtain⟨n,rfl⟩:=okWide_int hu hv;exact oQ _ rfl rfl (by rw[q1];rfl)
  ·obtain⟨n,rfl⟩:=okWide_bool hu hv;exact oQ _ rfl rfl (by rw[q1];rfl)
  ·obtain⟨n,rfl⟩:=okWide_string hu hv;exact oQ _ rfl rfl (by rw[q1];rfl)
  ·obtain⟨a,l,c,rfl⟩:=okWide_slice hu hv;exact oQ _ rfl rfl (by rw[q1];rfl)
def E7 (P:Program)(t:TypeId):Bool:=jV P t||match P.underlying t with
 |some (.int _) | some .bool|some .string|some (.slice _)=>true
 |_=>false
theorem Ye1 {t:TypeId} (h:E7 P t=true):jV P t=true\/(∃k,P.underlying t=some (.int k))\/P.underlying t=some .bool\/P.underlying t=some .string\/∃e,P.underlying t=some (.slice e):=by
 simp only[E7,cb]at h;rcases h with h|h
 ·exact .inl h
 ·refine .inr ?_;split at h
  ·rename_i k hu;exact .inl ⟨k,hu⟩
  ·rename_i hu;exact .inr (.inl hu)
  ·rename_i hu;exact .inr (.inr (.inl hu))
  ·rename_i e hu;exact .inr (.inr (.inr ⟨e,hu⟩))
  ·cases h
theorem OH {S:List TypeId} (hC:oL P S=true) {b0 base:Nat} {sp:Nat->Bool} {hd:Bool}:∀(ts:List TypeId) (vs:List Value) (ds:List (DataW H)) (p:List MemPlace),DataW.TrodAll enc P W base sp hd ts vs ds p ->
  (ts.all λt=>S.contains t&&E7 P t)=true->(∀(j:Nat) t v,ts[j]? = some t->vs[j]? = some v->Value.okWide P W .any b0 t v)->(∀n∈DataW.weightsEach P ts ds,n<=reachBytes) ->
  ∃cI:List ah,vs.length=cI.length/\(∀k,k<cI.length->cn W ux vd (vs.getD k undef) (cI.getD k .undef))/\cI.length=ts.length/\∀(j:Nat) t,ts[j]? = some t->Co P t (cI.getD j .undef)
 |[],[],[],_,_,_,_,_=>⟨[],rfl,λk hk=>absurd hk (by simp),rfl,λj t h=>by simp at h⟩
 | t :: ts,v :: vs,d :: ds,p,h,hS,hv,yD=>by
  obtain⟨p1,q1,h1,h2,_⟩:=h;simp only[DataW.weightsEach,a_]at yD;simp only[h_,aG]at hS;obtain⟨cI,a1,a2,a3,a4⟩:=OH hC ts vs ds q1 h2 (by simpa using hS.2) (λj t v e1 e2=>hv (j+1) t v (by simpa using e1) (by simpa using e2)) λn hn=>yD n (.inr hn);obtain⟨a,b1,b2⟩:=Yd7 hC (by simpa using hS.1.1) (Ye1 hS.1.2) (hv 0 t v rfl rfl) h1 λn hn=>yD n (.inl hn);refine⟨a :: cI,by simp[a1],λk hk=>?_,by simp[a3],λj t' hj=>?_⟩
  ·cases k with
   |zero=>exact b1
   |succ k=>exact a2 k (by simpa using hk)
  ·cases j with
   |zero=>simp at hj;subst hj;exact b2
   |succ j=>exact a4 j t' (by simpa using hj)
 |[],[],_ :: _,_,h,_,_,_=>by simp[DataW.TrodAll]at h
 |[],_ :: _,_,_,h,_,_,_=>by simp[DataW.TrodAll]at h
 |_ :: _,[],_,_,h,_,_,_=>by simp[DataW.TrodAll]at h
 |_ :: _,_ :: _,[],_,h,_,_,_=>by simp[DataW.TrodAll]at h
theorem NM (hl:laidOutB P=true) (hb:RowKit.Below W.heap.size W W'):∀(ts:List TypeId) (vs:List Value) (ds:List (DataW H)) (p:List MemPlace),DataW.TrodAll enc P W 0 (λ_=>true) true ts vs ds p ->
  (ts.all λt=>P.readableRec t&&decide (t<P.types.size))=true->DataW.TrodAll enc P W' 0 (λb=>decide (b<W.heap.size)) true ts vs ds p
 |[],[],[],_,h,_=>h
 |t :: ts,v :: vs,d :: ds,p,h,hS=>by
  obtain⟨p1,q1,h1,h2,e⟩:=h;simp only[h_,aG,decide_eq_true_eq]at hS;refine⟨p1,q1,RowKit.Below.trod hl hS.1.1 hS.1.2 h1 hb ?_,NM hl hb ts vs ds q1 h2 (by simpa using hS.2),e⟩;obtain⟨m,hm⟩:=h1;exact DataW.trod_lt m _ _ _ hm
 |[],[],_ :: _,_,h,_=>by simp[DataW.TrodAll]at h
 |[],_ :: _,_,_,h,_=>by simp[DataW.TrodAll]at h
 |_ :: _,[],_,_,h,_=>by simp[DataW.TrodAll]at h
 |_ :: _,_ :: _,[],_,h,_=>by simp[DataW.TrodAll]at h
theorem r_ {base:Nat} {sp:Nat->Bool} {hd:Bool}:∀(ts:List TypeId) (vs:List Value) (ds:List (DataW H)) (p:List MemPlace),DataW.TrodAll enc P W base sp hd ts vs ds p->ds.length=ts.length
 |[],[],[],_,_=>rfl
 |t :: ts,v :: vs,d :: ds,p,h=>by
  obtain⟨p1,q1,_,h2,_⟩:=h;simp[r_ ts vs ds q1 h2]
 |[],[],_ :: _,_,h=>by simp[DataW.TrodAll]at h
 |[],_ :: _,_,_,h=>by simp[DataW.TrodAll]at h
 |_ :: _,[],_,_,h=>by simp[DataW.TrodAll]at h
 |_ :: _,_ :: _,[],_,h=>by simp[DataW.TrodAll]at h
end
end Go.dq
