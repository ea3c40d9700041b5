/- Part 13 of my own framework and of the walks of functions: AbsO. -/
import Derived.Test.YtfjbdamcmiglgaaGreatOwn12
set_option linter.unusedVariables false
set_option linter.unusedSectionVars false
set_option linter.unusedSimpArgs false
namespace Go.dm
open Go
def w5 (P:Program) (o:Oper) (st:St) (K:St→Prop):Prop :=
 match o.op with
 | .call { callee:=.value f,args, .. }=>aq P (ev st.tm f) (args.toList.map (ev st.tm)) st.σ fun r σ'=>K ⟨put st.tm o.dst r,σ'⟩
 | op=>∃ r σ',dt P st.σ st.σ.length (ev st.tm) op=some (r,σ')∧K ⟨put st.tm o.dst r,σ'⟩
section
variable {P:Program}
theorem xG {σ:ai} {nm:Nat} {b:bO} : σ.length≤(cr σ nm b).length:=Cc σ nm b
theorem Lx {σ:ai} {nm:Nat} {e:fj} {s:ah} {xs:List ah} {r:ah} {σ':ai} (h:eO σ nm e s xs=some (r,σ')) : σ.length≤σ'.length:=by
 unfold eO n8 mH at h
 repeat' split at h
 all_goals first | (cases h;done) | (cases h;first | exact ae _ | exact xG | (refine c_ ?_ xG;simp))
theorem VC {σ:ai} {sz:Nat} {s:ah} {xs:List ah} {σ':ai} (h:kQ σ sz s xs=some σ') : σ.length≤σ'.length:=by
 unfold kQ at h
 repeat' split at h
 all_goals first | (cases h;done) | (cases h;exact xG)
theorem Yr3 {σ:ai} {nm:Nat} {ρ:Operand→ah} {op:Op} {r:ah} {σ':ai} (h:dt P σ nm ρ op=some (r,σ')) : σ.length≤σ'.length:=by
 have mp:∀ {x:Option ah} (_:x.map (·,σ)=some (r,σ')),σ.length≤σ'.length:=by
  intro x hx;obtain ⟨a,_,h2⟩:=aI.1 hx;simp only [bE] at h2;rw [h2.2];exact ae _
 cases op with
 | move x=>simp only [dt,aH,bE] at h;rw [h.2];exact ae _
 | assign x=>simp only [dt,aH,bE] at h;rw [h.2];exact ae _
 | pick c a b=>exact mp h
 | alloc t =>
  simp only [dt] at h;obtain ⟨l,hl,h1⟩:=ay.1 h;simp only [aH,bE] at h1;rw [← h1.2];exact xG
 | box t x =>
  simp only [dt] at h;obtain ⟨l,hl,h1⟩:=ay.1 h;split at h1
  ·simp only [aH,bE] at h1;rw [← h1.2];exact xG
  ·cases h1
 | build t parts=>simp only [dt] at h;obtain ⟨T,hT,h1⟩:=ay.1 h;exact mp h1
 | buildSlice t n parts =>
  simp only [dt] at h;obtain ⟨T,hT,h1⟩:=ay.1 h;obtain ⟨e,he,h2⟩:=ay.1 h1;obtain ⟨es,kj,h3⟩:=ay.1 h2;split at h3
  ·simp only [aH,bE] at h3;rw [← h3.2];exact xG
  ·cases h3
 | load t x=>simp only [dt] at h;obtain ⟨T,hT,h1⟩:=ay.1 h;exact mp h1
 | store t x v =>
  simp only [dt] at h;obtain ⟨l,hl,h1⟩:=ay.1 h;obtain ⟨s,h2,h3⟩:=aI.1 h1;simp only [bE] at h3;obtain ⟨_,rfl⟩:=h3;unfold mS at h2
  repeat' split at h2
  all_goals first | (cases h2;done) | (cases h2;exact xG)
 | nilCheck x =>
  simp only [dt] at h
  repeat' split at h
  all_goals first | (cases h;done) | (cases h;exact ae _)
 | binOp op t x y u=>exact mp h
 | unOp op t x=>exact mp h
 | convert s d x=>exact mp h
 | makeInterface t x =>
  simp only [dt] at h
  repeat' split at h
  all_goals first | (cases h;done) | (cases h;exact ae _)
 | makeFunc fn first captured =>
  cases fn<;>simp only [dt,reduceCtorEq,aH,bE] at h;rw [h.2];exact ae _
 | makeMap t r' =>
  cases r'<;>simp only [dt,reduceCtorEq,aH,bE] at h;rw [← h.2];exact xG
 | makeSlice t l c =>
  simp only [dt] at h;obtain ⟨T,hT,h1⟩:=ay.1 h;unfold kh at h1
  repeat' split at h1
  all_goals first | (cases h1;done) | (cases h1;exact xG)
 | slice t x lo hi mx=>simp only [dt] at h;obtain ⟨T,hT,h1⟩:=ay.1 h;exact mp h1
 | fieldAddr t x i=>simp only [dt] at h;obtain ⟨T,hT,h1⟩:=ay.1 h;exact mp h1
 | field t x i=>simp only [dt] at h;obtain ⟨T,hT,h1⟩:=ay.1 h;exact mp h1
 | indexAddr t x i=>simp only [dt] at h;obtain ⟨T,hT,h1⟩:=ay.1 h;exact mp h1
 | index t x i=>simp only [dt] at h;obtain ⟨T,hT,h1⟩:=ay.1 h;exact mp h1
 | lookup t x i ok=>simp only [dt] at h;obtain ⟨T,hT,h1⟩:=ay.1 h;exact mp h1
 | mapUpdate t m k v | insert t m k v =>
  simp only [dt] at h;obtain ⟨T,hT,h1⟩:=ay.1 h;obtain ⟨s,h2,h3⟩:=aI.1 h1;simp only [bE] at h3;obtain ⟨_,rfl⟩:=h3;unfold gY at h2
  repeat' split at h2
  all_goals first | (cases h2;done) | (cases h2;exact xG)
 | range t x =>
  simp only [dt] at h;obtain ⟨T,hT,h1⟩:=ay.1 h
  repeat' split at h1
  all_goals first | (cases h1;done) | (cases h1;exact xG)
 | next x s =>
  cases s with
  | true =>
   simp only [dt,nQ] at h
   repeat' split at h
   all_goals first | (cases h;done) | (cases h;first | exact xG | exact ae _)
  | false=>simp [dt] at h
 | entry x =>
  simp only [dt,pc] at h
  repeat' split at h
  all_goals first | (cases h;done) | (cases h;exact ae _)
 | typeAssert x t u ok=>exact mp h
 | extract x i =>
  simp only [dt] at h;split at h
  ·exact mp h
  ·cases h
 | call c =>
  obtain ⟨callee,args,ts⟩:=c;cases callee with
  | builtin b =>
   simp only [dt] at h;unfold fF at h;split at h
   ·obtain ⟨T,hT,h1⟩:=ay.1 h;split at h1
    ·cases h1;exact ae _
    ·obtain ⟨n,_,h3⟩:=aI.1 h1;cases h3;exact ae _
    ·obtain ⟨n,_,h3⟩:=aI.1 h1;cases h3;exact ae _
    ·obtain ⟨n,_,h3⟩:=aI.1 h1;cases h3;exact ae _
    ·cases h1
   ·obtain ⟨T,hT,h1⟩:=ay.1 h;obtain ⟨U,hU,h2⟩:=ay.1 h1;split at h2
    ·obtain ⟨xs,_,h3⟩:=ay.1 h2;exact Lx h3
    ·split at h2
     ·split at h2
      ·exact Lx h2
      ·cases h2
     ·cases h2
    ·split at h2
     ·split at h2
      ·exact Lx h2
      ·cases h2
     ·cases h2
    ·cases h2
   ·obtain ⟨T,hT,h1⟩:=ay.1 h;split at h1
    ·obtain ⟨n,_,h3⟩:=aI.1 h1;cases h3;exact ae _
    ·cases h1
   ·obtain ⟨T,hT,h1⟩:=ay.1 h;split at h1
    ·obtain ⟨n,_,h3⟩:=ay.1 h1;split at h3
     ·cases h3;exact ae _
     ·obtain ⟨s1,h4,h5⟩:=aI.1 h3;cases h5;exact VC h4
    ·cases h1
   ·obtain ⟨T,hT,h1⟩:=ay.1 h;obtain ⟨U,hU,h2⟩:=ay.1 h1;split at h2
    ·obtain ⟨n,_,h3⟩:=ay.1 h2;obtain ⟨xs,_,h3⟩:=ay.1 h3;obtain ⟨s1,h4,h5⟩:=aI.1 h3;cases h5;exact VC h4
    ·cases h2
   ·exact mp h
   ·exact mp h
   ·cases h
  | _=>simp [dt] at h
 | _=>simp [dt] at h
theorem mB.Io {lo:Ctx} {ops:Array Oper} {rs:List Nat} {i:Nat} {rest:List Nat} {o:Oper} {st:St} {Q:ct→St→Prop} (ho:ops[i]? = some o) (hg:mN ops st.tm o=some true)
  (h:w5 P o st fun s=>mB P lo ops rs rest s Q):mB P lo ops rs (i :: rest) st Q:=by
 unfold w5 at h;split at h
 ·rename_i f args ts hop;exact mB.call ho hg hop h
 ·obtain ⟨r,σ',h1,h2⟩:=h;exact mB.op ho hg h1 (fun hl=>c_ hl (Yr3 h1)) h2
theorem Yg0 {o:Oper} {st:St} {K K':St→Prop} (h:w5 P o st K) (hk:∀ s,K s→K' s):w5 P o st K':=by
 unfold w5 at h ⊢;split at h
 ·exact h.mono fun r s q=>hk _ q
 ·obtain ⟨r,σ',h1,h2⟩:=h;exact ⟨r,σ',h1,hk _ h2⟩
end
end Go.dm
