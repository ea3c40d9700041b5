/- Part 41 of what the claim rests on. -/
import Derived.Test.YtfjbdamcmiglgaaGreatOwn40
set_option linter.all false
namespace Go.dq
open Go
def Av (P:Program)(t:TypeId):Option (List (TypeId×Nat×Nat)):=match P.underlying t with
 |some (.struct fs)=>some (fs.toList.map λf=>(f.type,f.offset,P.cellsOf f.type))
 |_=>none
def pf (P:Program)(t:TypeId):Option (TypeId×Nat×Bool):=match P.underlying t with
 |some (.slice e)=>some (e,P.cellsOf e,jV P e)
 |_=>none
def HC (P:Program)(t:TypeId):Option KA:=(P.underlying t).map j4
section
variable {P:Program}{n:Nat}{t:TypeId}{cI:List ah}
theorem Pv {L:List (TypeId×Nat×Nat)} {N:Nat} (h:Av P t=some L) (hN:P.cellsOf t=N) (ht:n8 P n t cI):∃m,n=m+1/\cI.length=N/\∀f∈L,n8 P m f.1 ((cI.drop f.2.1).take f.2.2):=by
 cases n with
 |zero=>exact ht.elim
 |succ m =>
  refine⟨m,rfl,?_⟩;unfold Av at h;split at h
  ·rename_i fs hu;simp only[n8,hu]at ht;cases h;refine⟨ht.1.trans hN,λf hf=>?_⟩;obtain⟨f',pG,rfl⟩:=cN.1 hf;exact ht.2 f' pG
  ·cases h
theorem X9 {e:TypeId} {sz:Nat} {ag:Bool} (h:pf P t=some (e,sz,ag)) (ht:n8 P n t cI):∃m,n=m+1/\∃es,cI=[.ps sz es]/\(es.length<=maxLen/\es.length*P.bytesOf e<=reachBytes)/\∀x∈es,c_ x=ag/\n8 P m e x.cells:=by
 cases n with
 |zero=>exact ht.elim
 |succ m =>
  refine⟨m,rfl,?_⟩;unfold pf at h;split at h
  ·rename_i fs hu;simp only[n8,hu]at ht;cases h;exact ht
  ·cases h
theorem Pz {e:TypeId}{sz:Nat}{ag:Bool}(h:pf P t=some (e,sz,ag))(ht:n8 P n t cI):∃m,n=m+1/\∃es,cI=[.ps sz es]/\es.length<=maxLen/\∀x∈es,c_ x=ag/\n8 P m e x.cells:=by
 obtain⟨m,h1,es,h2,h3,h4⟩:=X9 h ht;exact⟨m,h1,es,h2,h3.1,h4⟩
theorem P3 (h:HC P t=some (.int .i64)) (ht:n8 P n t cI):∃i,cI=[.int .i64 i]/\-9223372036854775808<=i/\i<=9223372036854775807:=by
 cases n with
 |zero=>exact ht.elim
 |succ m =>
  unfold HC at h;rw[aP]at h;obtain⟨u,hu,hk⟩:=h;cases u<;>simp only[j4,reduceCtorEq,KA.int.injEq]at hk;subst hk;simp only[n8,hu]at ht;obtain⟨i,h1,h2⟩:=ht;refine⟨i,h1,?_⟩;simp[Lit.wf,IntKind.min,IntKind.max,IntKind.bits,IntKind.signed]at h2;exact h2
theorem Y2 (h:HC P t=some .bool) (ht:n8 P n t cI):∃b,cI=[.bool b]:=by
 cases n with
 |zero=>exact ht.elim
 |succ m =>
  unfold HC at h;rw[aP]at h;obtain⟨u,hu,hk⟩:=h;cases u<;>simp only[j4,reduceCtorEq]at hk;simp only[n8,hu]at ht;exact ht
theorem Yu5 (h:HC P t=some .str) (ht:n8 P n t cI):∃s:ByteArray,cI=[.str s]/\s.size<=reachBytes:=by
 cases n with
 |zero=>exact ht.elim
 |succ m =>
  unfold HC at h;rw[aP]at h;obtain⟨u,hu,hk⟩:=h;cases u<;>simp only[j4,reduceCtorEq]at hk;simp only[n8,hu]at ht;exact ht
theorem Gs {α:Type} {f : α->ah} {p : α->Prop}:∀es:List ah,(∀x∈es,∃a,x=f a/\p a)->∃l:List α,es=l.map f/\∀a∈l,p a
 |[],_=>⟨[],rfl,λa h=>by cases h⟩
 |x :: es,h=>by
  obtain⟨a,rfl,ha⟩:=h x List.mem_cons_self;obtain⟨l,rfl,hl⟩:=Gs es λy hy=>h y (ct _ hy);refine⟨a :: l,rfl,λb hb=>?_⟩;rcases aU.1 hb with rfl|hb
  ·exact ha
  ·exact hl b hb
theorem KY {x y:ah}(hx:c_ x=true)(hy:c_ y=true)(h:x.cells=y.cells):x=y:=by
 cases x<;>first | (cases hx;done) | skip
 cases y<;>first | (cases hy;done) | skip
 simp only[ah.cells]at h;rw[h]
theorem NY {x y:ah}(hx:c_ x=false)(hy:x.cells=[y]):x=y:=by
 cases x<;>first | (cases hx;done) | (simp only[ah.cells,gG,and_true]at hy;exact hy)
end
end Go.dq
