/- Part 13 of my own framework and of the walks of functions: AbsO. -/
import Derived.Test.YtpgnahcljlclcaaGreatOwn12
set_option linter.unusedVariables false
set_option linter.unusedSectionVars false
set_option linter.unusedSimpArgs false
namespace Go.Abs
open Go
def vcOp (P:Program) (o:Oper) (st:St) (K:St→Prop):Prop :=
 match o.op with
 | .call { callee:=.value f,args, .. }=>VCall P (ev st.tm f) (args.toList.map (ev st.tm)) st.σ fun r σ'=>K ⟨put st.tm o.dst r,σ'⟩
 | op=>∃ r σ',opE P st.σ st.σ.length (ev st.tm) op=some (r,σ')∧K ⟨put st.tm o.dst r,σ'⟩
section
variable {P:Program}
theorem Zc2 {σ:Store} {nm:Nat} {b:Blk} : σ.length≤(setS σ nm b).length:=Zc0 σ nm b
theorem Zgf {σ:Store} {nm:Nat} {e:Lay} {s:AVal} {xs:List AVal} {r:AVal} {σ':Store} (h:appendA σ nm e s xs=some (r,σ')) : σ.length≤σ'.length:=by
 unfold appendA appendC appendO at h
 repeat' split at h
 all_goals first | (cases h;done) | (cases h;first | exact Nat.le_refl _ | exact Zc2 | (refine Nat.le_trans ?_ Zc2;simp))
theorem Znw {σ:Store} {sz:Nat} {s:AVal} {xs:List AVal} {σ':Store} (h:overA σ sz s xs=some σ') : σ.length≤σ'.length:=by
 unfold overA at h
 repeat' split at h
 all_goals first | (cases h;done) | (cases h;exact Zc2)
theorem Ym0 {σ:Store} {nm:Nat} {ρ:Operand→AVal} {op:Op} {r:AVal} {σ':Store} (h:opE P σ nm ρ op=some (r,σ')) : σ.length≤σ'.length:=by
 have mp:∀ {x:Option AVal} (_:x.map (·,σ)=some (r,σ')),σ.length≤σ'.length:=by
  intro x hx
  obtain ⟨a,_,h2⟩:=Option.map_eq_some_iff.1 hx
  simp only [Prod.mk.injEq] at h2
  rw [h2.2];exact Nat.le_refl _
 cases op with
 | move x=>simp only [opE,Option.some.injEq,Prod.mk.injEq] at h;rw [h.2];exact Nat.le_refl _
 | assign x=>simp only [opE,Option.some.injEq,Prod.mk.injEq] at h;rw [h.2];exact Nat.le_refl _
 | pick c a b=>exact mp h
 | alloc t =>
  simp only [opE] at h
  obtain ⟨l,hl,h1⟩:=Option.bind_eq_some_iff.1 h
  simp only [Option.some.injEq,Prod.mk.injEq] at h1
  rw [← h1.2];exact Zc2
 | box t x =>
  simp only [opE] at h
  obtain ⟨l,hl,h1⟩:=Option.bind_eq_some_iff.1 h
  split at h1
  ·simp only [Option.some.injEq,Prod.mk.injEq] at h1
   rw [← h1.2];exact Zc2
  ·cases h1
 | build t parts=>simp only [opE] at h;obtain ⟨T,hT,h1⟩:=Option.bind_eq_some_iff.1 h;exact mp h1
 | buildSlice t n parts =>
  simp only [opE] at h
  obtain ⟨T,hT,h1⟩:=Option.bind_eq_some_iff.1 h
  obtain ⟨e,he,h2⟩:=Option.bind_eq_some_iff.1 h1
  obtain ⟨es,hes,h3⟩:=Option.bind_eq_some_iff.1 h2
  split at h3
  ·simp only [Option.some.injEq,Prod.mk.injEq] at h3
   rw [← h3.2];exact Zc2
  ·cases h3
 | load t x=>simp only [opE] at h;obtain ⟨T,hT,h1⟩:=Option.bind_eq_some_iff.1 h;exact mp h1
 | store t x v =>
  simp only [opE] at h
  obtain ⟨l,hl,h1⟩:=Option.bind_eq_some_iff.1 h
  obtain ⟨s,h2,h3⟩:=Option.map_eq_some_iff.1 h1
  simp only [Prod.mk.injEq] at h3
  obtain ⟨_,rfl⟩:=h3
  unfold storeA at h2
  repeat' split at h2
  all_goals first | (cases h2;done) | (cases h2;exact Zc2)
 | nilCheck x =>
  simp only [opE] at h
  repeat' split at h
  all_goals first | (cases h;done) | (cases h;exact Nat.le_refl _)
 | binOp op t x y u=>exact mp h
 | unOp op t x=>exact mp h
 | convert s d x=>exact mp h
 | makeInterface t x =>
  simp only [opE] at h
  repeat' split at h
  all_goals first | (cases h;done) | (cases h;exact Nat.le_refl _)
 | makeFunc fn first captured =>
  cases fn<;>simp only [opE,reduceCtorEq,Option.some.injEq,Prod.mk.injEq] at h
  rw [h.2];exact Nat.le_refl _
 | makeMap t r' =>
  cases r'<;>simp only [opE,reduceCtorEq,Option.some.injEq,Prod.mk.injEq] at h
  rw [← h.2];exact Zc2
 | makeSlice t l c =>
  simp only [opE] at h
  obtain ⟨T,hT,h1⟩:=Option.bind_eq_some_iff.1 h
  unfold makeSliceA at h1
  repeat' split at h1
  all_goals first | (cases h1;done) | (cases h1;exact Zc2)
 | slice t x lo hi mx=>simp only [opE] at h;obtain ⟨T,hT,h1⟩:=Option.bind_eq_some_iff.1 h;exact mp h1
 | fieldAddr t x i=>simp only [opE] at h;obtain ⟨T,hT,h1⟩:=Option.bind_eq_some_iff.1 h;exact mp h1
 | field t x i=>simp only [opE] at h;obtain ⟨T,hT,h1⟩:=Option.bind_eq_some_iff.1 h;exact mp h1
 | indexAddr t x i=>simp only [opE] at h;obtain ⟨T,hT,h1⟩:=Option.bind_eq_some_iff.1 h;exact mp h1
 | index t x i=>simp only [opE] at h;obtain ⟨T,hT,h1⟩:=Option.bind_eq_some_iff.1 h;exact mp h1
 | lookup t x i ok=>simp only [opE] at h;obtain ⟨T,hT,h1⟩:=Option.bind_eq_some_iff.1 h;exact mp h1
 | mapUpdate t m k v | insert t m k v =>
  simp only [opE] at h
  obtain ⟨T,hT,h1⟩:=Option.bind_eq_some_iff.1 h
  obtain ⟨s,h2,h3⟩:=Option.map_eq_some_iff.1 h1
  simp only [Prod.mk.injEq] at h3
  obtain ⟨_,rfl⟩:=h3
  unfold mapUpdateA at h2
  repeat' split at h2
  all_goals first | (cases h2;done) | (cases h2;exact Zc2)
 | range t x =>
  simp only [opE] at h
  obtain ⟨T,hT,h1⟩:=Option.bind_eq_some_iff.1 h
  repeat' split at h1
  all_goals first | (cases h1;done) | (cases h1;exact Zc2)
 | next x s =>
  cases s with
  | true =>
   simp only [opE,iterNext] at h
   repeat' split at h
   all_goals first | (cases h;done) | (cases h;first | exact Zc2 | exact Nat.le_refl _)
  | false=>simp [opE] at h
 | entry x =>
  simp only [opE,entryA] at h
  repeat' split at h
  all_goals first | (cases h;done) | (cases h;exact Nat.le_refl _)
 | typeAssert x t u ok=>exact mp h
 | extract x i =>
  simp only [opE] at h
  split at h
  ·exact mp h
  ·cases h
 | call c =>
  obtain ⟨callee,args,ts⟩:=c
  cases callee with
  | builtin b =>
   simp only [opE] at h
   unfold builtinA at h
   split at h
   ·obtain ⟨T,hT,h1⟩:=Option.bind_eq_some_iff.1 h
    split at h1
    ·cases h1;exact Nat.le_refl _
    ·obtain ⟨n,_,h3⟩:=Option.map_eq_some_iff.1 h1;cases h3;exact Nat.le_refl _
    ·obtain ⟨n,_,h3⟩:=Option.map_eq_some_iff.1 h1;cases h3;exact Nat.le_refl _
    ·obtain ⟨n,_,h3⟩:=Option.map_eq_some_iff.1 h1;cases h3;exact Nat.le_refl _
    ·cases h1
   ·obtain ⟨T,hT,h1⟩:=Option.bind_eq_some_iff.1 h
    obtain ⟨U,hU,h2⟩:=Option.bind_eq_some_iff.1 h1
    split at h2
    ·obtain ⟨xs,_,h3⟩:=Option.bind_eq_some_iff.1 h2;exact Zgf h3
    ·split at h2
     ·split at h2
      ·exact Zgf h2
      ·cases h2
     ·cases h2
    ·split at h2
     ·split at h2
      ·exact Zgf h2
      ·cases h2
     ·cases h2
    ·cases h2
   ·obtain ⟨T,hT,h1⟩:=Option.bind_eq_some_iff.1 h
    split at h1
    ·obtain ⟨n,_,h3⟩:=Option.map_eq_some_iff.1 h1;cases h3;exact Nat.le_refl _
    ·cases h1
   ·obtain ⟨T,hT,h1⟩:=Option.bind_eq_some_iff.1 h
    split at h1
    ·obtain ⟨n,_,h3⟩:=Option.bind_eq_some_iff.1 h1
     split at h3
     ·cases h3;exact Nat.le_refl _
     ·obtain ⟨s1,h4,h5⟩:=Option.map_eq_some_iff.1 h3;cases h5;exact Znw h4
    ·cases h1
   ·obtain ⟨T,hT,h1⟩:=Option.bind_eq_some_iff.1 h
    obtain ⟨U,hU,h2⟩:=Option.bind_eq_some_iff.1 h1
    split at h2
    ·obtain ⟨n,_,h3⟩:=Option.bind_eq_some_iff.1 h2
     obtain ⟨xs,_,h3⟩:=Option.bind_eq_some_iff.1 h3
     obtain ⟨s1,h4,h5⟩:=Option.map_eq_some_iff.1 h3;cases h5;exact Znw h4
    ·cases h2
   ·exact mp h
   ·exact mp h
   ·cases h
  | _=>simp [opE] at h
 | _=>simp [opE] at h
theorem EvR.of_op {lo:Ctx} {ops:Array Oper} {rs:List Nat} {i:Nat} {rest:List Nat} {o:Oper} {st:St} {Q:AExit→St→Prop} (ho:ops[i]? = some o) (hg:gdA ops st.tm o=some true)
  (h:vcOp P o st fun s=>EvR P lo ops rs rest s Q):EvR P lo ops rs (i :: rest) st Q:=by
 unfold vcOp at h
 split at h
 ·rename_i f args ts hop
  exact EvR.call ho hg hop h
 ·obtain ⟨r,σ',h1,h2⟩:=h
  exact EvR.op ho hg h1 (fun hl=>Nat.le_trans hl (Ym0 h1)) h2
theorem Yam {o:Oper} {st:St} {K K':St→Prop} (h:vcOp P o st K) (hk:∀ s,K s→K' s):vcOp P o st K':=by
 unfold vcOp at h ⊢
 split at h
 ·exact h.mono fun r s q=>hk _ q
 ·obtain ⟨r,σ',h1,h2⟩:=h
  exact ⟨r,σ',h1,hk _ h2⟩
end
end Go.Abs
