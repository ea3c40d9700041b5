/- Part 41 of my own framework and of the walks of functions: AcsP. -/
import Derived.Test.YtfjbdamcmiglgaaGreatOwn40
set_option linter.unusedVariables false
set_option linter.unusedSectionVars false
set_option linter.unusedSimpArgs false
namespace Go.c8
open Go
def yd (P:Program) (t:TypeId):Option (List (TypeId×Nat×Nat)):=match P.underlying t with
 | some (.struct fs)=>some (fs.toList.map fun f=>(f.type,f.offset,P.cellsOf f.type))
 | _=>none
def nJ (P:Program) (t:TypeId):Option (TypeId×Nat×Bool):=match P.underlying t with
 | some (.slice e)=>some (e,P.cellsOf e,jc P e)
 | _=>none
def E2 (P:Program) (t:TypeId):Option KA:=(P.underlying t).map jl
section
variable {P:Program} {n:Nat} {t:TypeId} {cm:List ae}
theorem K_ {L:List (TypeId×Nat×Nat)} {N:Nat} (h:yd P t=some L) (hN:P.cellsOf t=N) (ht:mH P n t cm):∃ m,n=m+1∧cm.length=N∧∀ f∈L,mH P m f.1 ((cm.drop f.2.1).take f.2.2):=by
 cases n with
 | zero=>exact ht.elim
 | succ m =>
  refine ⟨m,rfl,?_⟩
  unfold yd at h
  split at h
  ·rename_i fs hu
   simp only [mH,hu] at ht
   cases h
   refine ⟨ht.1.trans hN,fun f hf=>?_⟩
   obtain ⟨f',od,rfl⟩:=bZ.1 hf
   exact ht.2 f' od
  ·cases h
theorem SY {e:TypeId} {sz:Nat} {ag:Bool} (h:nJ P t=some (e,sz,ag)) (ht:mH P n t cm):∃ m,n=m+1∧∃ es,cm=[.ps sz es]∧(es.length≤maxLen∧es.length*P.bytesOf e≤reachBytes)∧∀ x∈es,cN x=ag∧mH P m e x.cells:=by
 cases n with
 | zero=>exact ht.elim
 | succ m =>
  refine ⟨m,rfl,?_⟩
  unfold nJ at h
  split at h
  ·rename_i fs hu
   simp only [mH,hu] at ht
   cases h
   exact ht
  ·cases h
theorem Lz {e:TypeId} {sz:Nat} {ag:Bool} (h:nJ P t=some (e,sz,ag)) (ht:mH P n t cm):∃ m,n=m+1∧∃ es,cm=[.ps sz es]∧es.length≤maxLen∧∀ x∈es,cN x=ag∧mH P m e x.cells:=by
 obtain ⟨m,h1,es,h2,h3,h4⟩:=SY h ht
 exact ⟨m,h1,es,h2,h3.1,h4⟩
theorem LU (h:E2 P t=some (.int .i64)) (ht:mH P n t cm):∃ i,cm=[.int .i64 i]∧-9223372036854775808≤i∧i≤9223372036854775807:=by
 cases n with
 | zero=>exact ht.elim
 | succ m =>
  unfold E2 at h
  rw [aH] at h
  obtain ⟨u,hu,hk⟩:=h
  cases u<;>simp only [jl,reduceCtorEq,KA.int.injEq] at hk
  subst hk
  simp only [mH,hu] at ht
  obtain ⟨i,h1,h2⟩:=ht
  refine ⟨i,h1,?_⟩
  simp [Lit.wf,IntKind.min,IntKind.max,IntKind.bits,IntKind.signed] at h2
  exact h2
theorem Ve (h:E2 P t=some .bool) (ht:mH P n t cm):∃ b,cm=[.bool b]:=by
 cases n with
 | zero=>exact ht.elim
 | succ m =>
  unfold E2 at h
  rw [aH] at h
  obtain ⟨u,hu,hk⟩:=h
  cases u<;>simp only [jl,reduceCtorEq] at hk
  simp only [mH,hu] at ht
  exact ht
theorem Ytv (h:E2 P t=some .str) (ht:mH P n t cm):∃ s:ByteArray,cm=[.str s]∧s.size≤reachBytes:=by
 cases n with
 | zero=>exact ht.elim
 | succ m =>
  unfold E2 at h
  rw [aH] at h
  obtain ⟨u,hu,hk⟩:=h
  cases u<;>simp only [jl,reduceCtorEq] at hk
  simp only [mH,hu] at ht
  exact ht
theorem D5 {α:Type} {f : α→ae} {p : α→Prop}:∀ es:List ae,(∀ x∈es, ∃ a,x=f a∧p a)→∃ l:List α,es=l.map f∧∀ a∈l,p a
 | [],_=>⟨[],rfl,fun a h=>by cases h⟩
 | x :: es,h=>by
  obtain ⟨a,rfl,ha⟩:=h x List.mem_cons_self
  obtain ⟨l,rfl,hl⟩:=D5 es fun y hy=>h y (cu _ hy)
  refine ⟨a :: l,rfl,fun b hb=>?_⟩
  rcases aR.1 hb with rfl | hb
  ·exact ha
  ·exact hl b hb
theorem Iu {x y:ae} (hx:cN x=true) (hy:cN y=true) (h:x.cells=y.cells):x=y:=by
 cases x<;>first | (cases hx;done) | skip
 cases y<;>first | (cases hy;done) | skip
 simp only [ae.cells] at h;rw [h]
theorem Kq {x y:ae} (hx:cN x=false) (hy:x.cells=[y]):x=y:=by
 cases x<;>first | (cases hx;done) | (simp only [ae.cells,gJ,and_true] at hy;exact hy)
end
end Go.c8
