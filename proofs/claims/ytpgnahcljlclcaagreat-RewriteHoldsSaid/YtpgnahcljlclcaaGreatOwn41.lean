/- Part 41 of my own framework and of the walks of functions: AcsP. -/
import Derived.Test.YtpgnahcljlclcaaGreatOwn40
set_option linter.unusedVariables false
set_option linter.unusedSectionVars false
set_option linter.unusedSimpArgs false
namespace Go.Abs
open Go
def fldsOf (P:Program) (t:TypeId):Option (List (TypeId×Nat×Nat)):=match P.underlying t with
 | some (.struct fs)=>some (fs.toList.map fun f=>(f.type,f.offset,P.cellsOf f.type))
 | _=>none
def sliceElem (P:Program) (t:TypeId):Option (TypeId×Nat×Bool):=match P.underlying t with
 | some (.slice e)=>some (e,P.cellsOf e,aggOf P e)
 | _=>none
def kaT (P:Program) (t:TypeId):Option KA:=(P.underlying t).map kaOf
section
variable {P:Program} {n:Nat} {t:TypeId} {as_:List AVal}
theorem Zj4 {L:List (TypeId×Nat×Nat)} {N:Nat} (h:fldsOf P t=some L) (hN:P.cellsOf t=N) (ht:TyT P n t as_):∃ m,n=m+1∧as_.length=N∧∀ f∈L,TyT P m f.1 ((as_.drop f.2.1).take f.2.2):=by
 cases n with
 | zero=>exact ht.elim
 | succ m =>
  refine ⟨m,rfl,?_⟩
  unfold fldsOf at h
  split at h
  ·rename_i fs hu
   simp only [TyT,hu] at ht
   cases h
   refine ⟨ht.1.trans hN,fun f hf=>?_⟩
   obtain ⟨f',hf',rfl⟩:=List.mem_map.1 hf
   exact ht.2 f' hf'
  ·cases h
theorem Zop {e:TypeId} {sz:Nat} {ag:Bool} (h:sliceElem P t=some (e,sz,ag)) (ht:TyT P n t as_):∃ m,n=m+1∧∃ es,as_=[.ps sz es]∧(es.length≤maxLen∧es.length*P.bytesOf e≤reachBytes)∧∀ x∈es,isAggA x=ag∧TyT P m e x.cells:=by
 cases n with
 | zero=>exact ht.elim
 | succ m =>
  refine ⟨m,rfl,?_⟩
  unfold sliceElem at h
  split at h
  ·rename_i fs hu
   simp only [TyT,hu] at ht
   cases h
   exact ht
  ·cases h
theorem Zho {e:TypeId} {sz:Nat} {ag:Bool} (h:sliceElem P t=some (e,sz,ag)) (ht:TyT P n t as_):∃ m,n=m+1∧∃ es,as_=[.ps sz es]∧es.length≤maxLen∧∀ x∈es,isAggA x=ag∧TyT P m e x.cells:=by
 obtain ⟨m,h1,es,h2,h3,h4⟩:=Zop h ht
 exact ⟨m,h1,es,h2,h3.1,h4⟩
theorem Zk0 (h:kaT P t=some (.int .i64)) (ht:TyT P n t as_):∃ i,as_=[.int .i64 i]∧-9223372036854775808≤i∧i≤9223372036854775807:=by
 cases n with
 | zero=>exact ht.elim
 | succ m =>
  unfold kaT at h
  rw [Option.map_eq_some_iff] at h
  obtain ⟨u,hu,hk⟩:=h
  cases u<;>simp only [kaOf,reduceCtorEq,KA.int.injEq] at hk
  subst hk
  simp only [TyT,hu] at ht
  obtain ⟨i,h1,h2⟩:=ht
  refine ⟨i,h1,?_⟩
  simp [Lit.wf,IntKind.min,IntKind.max,IntKind.bits,IntKind.signed] at h2
  exact h2
theorem Zts (h:kaT P t=some .bool) (ht:TyT P n t as_):∃ b,as_=[.bool b]:=by
 cases n with
 | zero=>exact ht.elim
 | succ m =>
  unfold kaT at h
  rw [Option.map_eq_some_iff] at h
  obtain ⟨u,hu,hk⟩:=h
  cases u<;>simp only [kaOf,reduceCtorEq] at hk
  simp only [TyT,hu] at ht
  exact ht
theorem Ykl (h:kaT P t=some .str) (ht:TyT P n t as_):∃ s:ByteArray,as_=[.str s]∧s.size≤reachBytes:=by
 cases n with
 | zero=>exact ht.elim
 | succ m =>
  unfold kaT at h
  rw [Option.map_eq_some_iff] at h
  obtain ⟨u,hu,hk⟩:=h
  cases u<;>simp only [kaOf,reduceCtorEq] at hk
  simp only [TyT,hu] at ht
  exact ht
theorem Zbz {α:Type} {f : α→AVal} {p : α→Prop}:∀ es:List AVal,(∀ x∈es, ∃ a,x=f a∧p a)→∃ l:List α,es=l.map f∧∀ a∈l,p a
 | [],_=>⟨[],rfl,fun a h=>by cases h⟩
 | x :: es,h=>by
  obtain ⟨a,rfl,ha⟩:=h x List.mem_cons_self
  obtain ⟨l,rfl,hl⟩:=Zbz es fun y hy=>h y (List.mem_cons_of_mem _ hy)
  refine ⟨a :: l,rfl,fun b hb=>?_⟩
  rcases List.mem_cons.1 hb with rfl | hb
  ·exact ha
  ·exact hl b hb
theorem Zf5 {x y:AVal} (hx:isAggA x=true) (hy:isAggA y=true) (h:x.cells=y.cells):x=y:=by
 cases x<;>first | (cases hx;done) | skip
 cases y<;>first | (cases hy;done) | skip
 simp only [AVal.cells] at h;rw [h]
theorem Zei {x y:AVal} (hx:isAggA x=false) (hy:x.cells=[y]):x=y:=by
 cases x<;>first | (cases hx;done) | (simp only [AVal.cells,List.cons.injEq,and_true] at hy;exact hy)
end
end Go.Abs
