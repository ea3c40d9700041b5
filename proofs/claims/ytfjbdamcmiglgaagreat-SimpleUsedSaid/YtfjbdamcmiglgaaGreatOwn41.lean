/- Part 41 of my own framework and of the walks of functions: AcsP. -/
import Derived.Test.YtfjbdamcmiglgaaGreatOwn40
set_option linter.unusedVariables false
set_option linter.unusedSectionVars false
set_option linter.unusedSimpArgs false
namespace Go.cV
open Go
def xS (P:Program) (t:TypeId):Option (List (TypeId×Nat×Nat)):=match P.underlying t with
 | some (.struct fs)=>some (fs.toList.map fun f=>(f.type,f.offset,P.cellsOf f.type))
 | _=>none
def nz (P:Program) (t:TypeId):Option (TypeId×Nat×Bool):=match P.underlying t with
 | some (.slice e)=>some (e,P.cellsOf e,iR P e)
 | _=>none
def EM (P:Program) (t:TypeId):Option KA:=(P.underlying t).map i_
section
variable {P:Program} {n:Nat} {t:TypeId} {ck:List ae}
theorem K4 {L:List (TypeId×Nat×Nat)} {N:Nat} (h:xS P t=some L) (hN:P.cellsOf t=N) (ht:mq P n t ck):∃ m,n=m+1∧ck.length=N∧∀ f∈L,mq P m f.1 ((ck.drop f.2.1).take f.2.2):=by
 cases n with
 | zero=>exact ht.elim
 | succ m =>
  refine ⟨m,rfl,?_⟩
  unfold xS at h
  split at h
  ·rename_i fs hu
   simp only [mq,hu] at ht
   cases h
   refine ⟨ht.1.trans hN,fun f hf=>?_⟩
   obtain ⟨f',nU,rfl⟩:=bW.1 hf
   exact ht.2 f' nU
  ·cases h
theorem Sc {e:TypeId} {sz:Nat} {ag:Bool} (h:nz P t=some (e,sz,ag)) (ht:mq P n t ck):∃ m,n=m+1∧∃ es,ck=[.ps sz es]∧(es.length≤maxLen∧es.length*P.bytesOf e≤reachBytes)∧∀ x∈es,cL x=ag∧mq P m e x.cells:=by
 cases n with
 | zero=>exact ht.elim
 | succ m =>
  refine ⟨m,rfl,?_⟩
  unfold nz at h
  split at h
  ·rename_i fs hu
   simp only [mq,hu] at ht
   cases h
   exact ht
  ·cases h
theorem K1 {e:TypeId} {sz:Nat} {ag:Bool} (h:nz P t=some (e,sz,ag)) (ht:mq P n t ck):∃ m,n=m+1∧∃ es,ck=[.ps sz es]∧es.length≤maxLen∧∀ x∈es,cL x=ag∧mq P m e x.cells:=by
 obtain ⟨m,h1,es,h2,h3,h4⟩:=Sc h ht
 exact ⟨m,h1,es,h2,h3.1,h4⟩
theorem LG (h:EM P t=some (.int .i64)) (ht:mq P n t ck):∃ i,ck=[.int .i64 i]∧-9223372036854775808≤i∧i≤9223372036854775807:=by
 cases n with
 | zero=>exact ht.elim
 | succ m =>
  unfold EM at h
  rw [aG] at h
  obtain ⟨u,hu,hk⟩:=h
  cases u<;>simp only [i_,reduceCtorEq,KA.int.injEq] at hk
  subst hk
  simp only [mq,hu] at ht
  obtain ⟨i,h1,h2⟩:=ht
  refine ⟨i,h1,?_⟩
  simp [Lit.wf,IntKind.min,IntKind.max,IntKind.bits,IntKind.signed] at h2
  exact h2
theorem UO (h:EM P t=some .bool) (ht:mq P n t ck):∃ b,ck=[.bool b]:=by
 cases n with
 | zero=>exact ht.elim
 | succ m =>
  unfold EM at h
  rw [aG] at h
  obtain ⟨u,hu,hk⟩:=h
  cases u<;>simp only [i_,reduceCtorEq] at hk
  simp only [mq,hu] at ht
  exact ht
theorem Yp1 (h:EM P t=some .str) (ht:mq P n t ck):∃ s:ByteArray,ck=[.str s]∧s.size≤reachBytes:=by
 cases n with
 | zero=>exact ht.elim
 | succ m =>
  unfold EM at h
  rw [aG] at h
  obtain ⟨u,hu,hk⟩:=h
  cases u<;>simp only [i_,reduceCtorEq] at hk
  simp only [mq,hu] at ht
  exact ht
theorem DR {α:Type} {f : α→ae} {p : α→Prop}:∀ es:List ae,(∀ x∈es, ∃ a,x=f a∧p a)→∃ l:List α,es=l.map f∧∀ a∈l,p a
 | [],_=>⟨[],rfl,fun a h=>by cases h⟩
 | x :: es,h=>by
  obtain ⟨a,rfl,ha⟩:=h x List.mem_cons_self
  obtain ⟨l,rfl,hl⟩:=DR es fun y hy=>h y (cq _ hy)
  refine ⟨a :: l,rfl,fun b hb=>?_⟩
  rcases aP.1 hb with rfl | hb
  ·exact ha
  ·exact hl b hb
theorem HX {x y:ae} (hx:cL x=true) (hy:cL y=true) (h:x.cells=y.cells):x=y:=by
 cases x<;>first | (cases hx;done) | skip
 cases y<;>first | (cases hy;done) | skip
 simp only [ae.cells] at h;rw [h]
theorem J2 {x y:ae} (hx:cL x=false) (hy:x.cells=[y]):x=y:=by
 cases x<;>first | (cases hx;done) | (simp only [ae.cells,gx,and_true] at hy;exact hy)
end
end Go.cV
