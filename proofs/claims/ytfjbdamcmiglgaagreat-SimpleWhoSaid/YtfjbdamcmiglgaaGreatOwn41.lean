/- Part 41 of my own framework and of the walks of functions: AcsP. -/
import Derived.Test.YtfjbdamcmiglgaaGreatOwn40
set_option linter.unusedVariables false
set_option linter.unusedSectionVars false
set_option linter.unusedSimpArgs false
namespace Go.c8
open Go
def xM (P:Program) (t:TypeId):Option (List (TypeId×Nat×Nat)):=match P.underlying t with
 | some (.struct fs)=>some (fs.toList.map fun f=>(f.type,f.offset,P.cellsOf f.type))
 | _=>none
def nw (P:Program) (t:TypeId):Option (TypeId×Nat×Bool):=match P.underlying t with
 | some (.slice e)=>some (e,P.cellsOf e,iQ P e)
 | _=>none
def EE (P:Program) (t:TypeId):Option KA:=(P.underlying t).map iY
section
variable {P:Program} {n:Nat} {t:TypeId} {cj:List ae}
theorem Kz {L:List (TypeId×Nat×Nat)} {N:Nat} (h:xM P t=some L) (hN:P.cellsOf t=N) (ht:mw P n t cj):∃ m,n=m+1∧cj.length=N∧∀ f∈L,mw P m f.1 ((cj.drop f.2.1).take f.2.2):=by
 cases n with
 | zero=>exact ht.elim
 | succ m =>
  refine ⟨m,rfl,?_⟩
  unfold xM at h
  split at h
  ·rename_i fs hu
   simp only [mw,hu] at ht
   cases h
   refine ⟨ht.1.trans hN,fun f hf=>?_⟩
   obtain ⟨f',nS,rfl⟩:=cn.1 hf
   exact ht.2 f' nS
  ·cases h
theorem SW {e:TypeId} {sz:Nat} {ag:Bool} (h:nw P t=some (e,sz,ag)) (ht:mw P n t cj):∃ m,n=m+1∧∃ es,cj=[.ps sz es]∧(es.length≤maxLen∧es.length*P.bytesOf e≤reachBytes)∧∀ x∈es,cJ x=ag∧mw P m e x.cells:=by
 cases n with
 | zero=>exact ht.elim
 | succ m =>
  refine ⟨m,rfl,?_⟩
  unfold nw at h
  split at h
  ·rename_i fs hu
   simp only [mw,hu] at ht
   cases h
   exact ht
  ·cases h
theorem K5 {e:TypeId} {sz:Nat} {ag:Bool} (h:nw P t=some (e,sz,ag)) (ht:mw P n t cj):∃ m,n=m+1∧∃ es,cj=[.ps sz es]∧es.length≤maxLen∧∀ x∈es,cJ x=ag∧mw P m e x.cells:=by
 obtain ⟨m,h1,es,h2,h3,h4⟩:=SW h ht
 exact ⟨m,h1,es,h2,h3.1,h4⟩
theorem Ll (h:EE P t=some (.int .i64)) (ht:mw P n t cj):∃ i,cj=[.int .i64 i]∧-9223372036854775808≤i∧i≤9223372036854775807:=by
 cases n with
 | zero=>exact ht.elim
 | succ m =>
  unfold EE at h
  rw [aH] at h
  obtain ⟨u,hu,hk⟩:=h
  cases u<;>simp only [iY,reduceCtorEq,KA.int.injEq] at hk
  subst hk
  simp only [mw,hu] at ht
  obtain ⟨i,h1,h2⟩:=ht
  refine ⟨i,h1,?_⟩
  simp [Lit.wf,IntKind.min,IntKind.max,IntKind.bits,IntKind.signed] at h2
  exact h2
theorem TU (h:EE P t=some .bool) (ht:mw P n t cj):∃ b,cj=[.bool b]:=by
 cases n with
 | zero=>exact ht.elim
 | succ m =>
  unfold EE at h
  rw [aH] at h
  obtain ⟨u,hu,hk⟩:=h
  cases u<;>simp only [iY,reduceCtorEq] at hk
  simp only [mw,hu] at ht
  exact ht
theorem Yqm (h:EE P t=some .str) (ht:mw P n t cj):∃ s:ByteArray,cj=[.str s]∧s.size≤reachBytes:=by
 cases n with
 | zero=>exact ht.elim
 | succ m =>
  unfold EE at h
  rw [aH] at h
  obtain ⟨u,hu,hk⟩:=h
  cases u<;>simp only [iY,reduceCtorEq] at hk
  simp only [mw,hu] at ht
  exact ht
theorem DG {α:Type} {f : α→ae} {p : α→Prop}:∀ es:List ae,(∀ x∈es, ∃ a,x=f a∧p a)→∃ l:List α,es=l.map f∧∀ a∈l,p a
 | [],_=>⟨[],rfl,fun a h=>by cases h⟩
 | x :: es,h=>by
  obtain ⟨a,rfl,ha⟩:=h x List.mem_cons_self
  obtain ⟨l,rfl,hl⟩:=DG es fun y hy=>h y (cB _ hy)
  refine ⟨a :: l,rfl,fun b hb=>?_⟩
  rcases aQ.1 hb with rfl | hb
  ·exact ha
  ·exact hl b hb
theorem HI {x y:ae} (hx:cJ x=true) (hy:cJ y=true) (h:x.cells=y.cells):x=y:=by
 cases x<;>first | (cases hx;done) | skip
 cases y<;>first | (cases hy;done) | skip
 simp only [ae.cells] at h;rw [h]
theorem J0 {x y:ae} (hx:cJ x=false) (hy:x.cells=[y]):x=y:=by
 cases x<;>first | (cases hx;done) | (simp only [ae.cells,gA,and_true] at hy;exact hy)
end
end Go.c8
