/- Part 41 of my own framework and of the walks of functions: AcsP. -/
import Derived.Test.YtfjbdamcmiglgaaGreatOwn40
set_option linter.unusedVariables false
set_option linter.unusedSectionVars false
set_option linter.unusedSimpArgs false
namespace Go.dm
open Go
def y0 (P:Program) (t:TypeId):Option (List (TypeId×Nat×Nat)):=match P.underlying t with
 | some (.struct fs)=>some (fs.toList.map fun f=>(f.type,f.offset,P.cellsOf f.type))
 | _=>none
def n_ (P:Program) (t:TypeId):Option (TypeId×Nat×Bool):=match P.underlying t with
 | some (.slice e)=>some (e,P.cellsOf e,jt P e)
 | _=>none
def F4 (P:Program) (t:TypeId):Option KA:=(P.underlying t).map jC
section
variable {P:Program} {n:Nat} {t:TypeId} {cD:List ah}
theorem Jy {L:List (TypeId×Nat×Nat)} {N:Nat} (h:y0 P t=some L) (hN:P.cellsOf t=N) (ht:mG P n t cD):∃ m,n=m+1∧cD.length=N∧∀ f∈L,mG P m f.1 ((cD.drop f.2.1).take f.2.2):=by
 cases n with
 | zero=>exact ht.elim
 | succ m =>
  refine ⟨m,rfl,?_⟩;unfold y0 at h;split at h
  ·rename_i fs hu;simp only [mG,hu] at ht;cases h;refine ⟨ht.1.trans hN,fun f hf=>?_⟩;obtain ⟨f',oM,rfl⟩:=cB.1 hf;exact ht.2 f' oM
  ·cases h
theorem U9 {e:TypeId} {sz:Nat} {ag:Bool} (h:n_ P t=some (e,sz,ag)) (ht:mG P n t cD):∃ m,n=m+1∧∃ es,cD=[.ps sz es]∧(es.length≤maxLen∧es.length*P.bytesOf e≤reachBytes)∧∀ x∈es,cX x=ag∧mG P m e x.cells:=by
 cases n with
 | zero=>exact ht.elim
 | succ m =>
  refine ⟨m,rfl,?_⟩;unfold n_ at h;split at h
  ·rename_i fs hu;simp only [mG,hu] at ht;cases h;exact ht
  ·cases h
theorem GI {e:TypeId} {sz:Nat} {ag:Bool} (h:n_ P t=some (e,sz,ag)) (ht:mG P n t cD):∃ m,n=m+1∧∃ es,cD=[.ps sz es]∧es.length≤maxLen∧∀ x∈es,cX x=ag∧mG P m e x.cells:=by
 obtain ⟨m,h1,es,h2,h3,h4⟩:=U9 h ht;exact ⟨m,h1,es,h2,h3.1,h4⟩
theorem GY (h:F4 P t=some (.int .i64)) (ht:mG P n t cD):∃ i,cD=[.int .i64 i]∧-9223372036854775808≤i∧i≤9223372036854775807:=by
 cases n with
 | zero=>exact ht.elim
 | succ m =>
  unfold F4 at h;rw [aI] at h;obtain ⟨u,hu,hk⟩:=h;cases u<;>simp only [jC,reduceCtorEq,KA.int.injEq] at hk;subst hk;simp only [mG,hu] at ht;obtain ⟨i,h1,h2⟩:=ht;refine ⟨i,h1,?_⟩;simp [Lit.wf,IntKind.min,IntKind.max,IntKind.bits,IntKind.signed] at h2;exact h2
theorem WY (h:F4 P t=some .bool) (ht:mG P n t cD):∃ b,cD=[.bool b]:=by
 cases n with
 | zero=>exact ht.elim
 | succ m =>
  unfold F4 at h;rw [aI] at h;obtain ⟨u,hu,hk⟩:=h;cases u<;>simp only [jC,reduceCtorEq] at hk;simp only [mG,hu] at ht;exact ht
theorem Yrg (h:F4 P t=some .str) (ht:mG P n t cD):∃ s:ByteArray,cD=[.str s]∧s.size≤reachBytes:=by
 cases n with
 | zero=>exact ht.elim
 | succ m =>
  unfold F4 at h;rw [aI] at h;obtain ⟨u,hu,hk⟩:=h;cases u<;>simp only [jC,reduceCtorEq] at hk;simp only [mG,hu] at ht;exact ht
theorem Cb {α:Type} {f : α→ah} {p : α→Prop}:∀ es:List ah,(∀ x∈es, ∃ a,x=f a∧p a)→∃ l:List α,es=l.map f∧∀ a∈l,p a
 | [],_=>⟨[],rfl,fun a h=>by cases h⟩
 | x :: es,h=>by
  obtain ⟨a,rfl,ha⟩:=h x List.mem_cons_self;obtain ⟨l,rfl,hl⟩:=Cb es fun y hy=>h y (cR _ hy);refine ⟨a :: l,rfl,fun b hb=>?_⟩;rcases aQ.1 hb with rfl | hb
  ·exact ha
  ·exact hl b hb
theorem Gm {x y:ah} (hx:cX x=true) (hy:cX y=true) (h:x.cells=y.cells):x=y:=by
 cases x<;>first | (cases hx;done) | skip
 cases y<;>first | (cases hy;done) | skip
 simp only [ah.cells] at h;rw [h]
theorem Gf {x y:ah} (hx:cX x=false) (hy:x.cells=[y]):x=y:=by
 cases x<;>first | (cases hx;done) | (simp only [ah.cells,h_,and_true] at hy;exact hy)
end
end Go.dm
