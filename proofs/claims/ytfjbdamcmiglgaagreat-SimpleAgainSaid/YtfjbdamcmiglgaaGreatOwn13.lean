/- Part 13 of my own framework and of the walks of functions: AbsO. -/
import Derived.Test.YtfjbdamcmiglgaaGreatOwn12
set_option linter.unusedVariables false
set_option linter.unusedSectionVars false
set_option linter.unusedSimpArgs false
namespace Go.c8
open Go
def wc (P:Program) (o:Oper) (st:St) (K:St→Prop):Prop :=
 match o.op with
 | .call { callee:=.value f,args, .. }=>aq P (ev st.tm f) (args.toList.map (ev st.tm)) st.σ fun r σ'=>K ⟨put st.tm o.dst r,σ'⟩
 | op=>∃ r σ',c9 P st.σ st.σ.length (ev st.tm) op=some (r,σ')∧K ⟨put st.tm o.dst r,σ'⟩
section
variable {P:Program}
theorem wR {σ:ai} {nm:Nat} {b:bE} : σ.length≤(b_ σ nm b).length:=Bh σ nm b
theorem Kj {σ:ai} {nm:Nat} {e:eM} {s:ae} {xs:List ae} {r:ae} {σ':ai} (h:ei σ nm e s xs=some (r,σ')) : σ.length≤σ'.length:=by
 unfold ei nH mn at h
 repeat' split at h
 all_goals first | (cases h;done) | (cases h;first | exact ah _ | exact wR | (refine cV ?_ wR;simp))
theorem SU {σ:ai} {sz:Nat} {s:ae} {xs:List ae} {σ':ai} (h:kA σ sz s xs=some σ') : σ.length≤σ'.length:=by
 unfold kA at h
 repeat' split at h
 all_goals first | (cases h;done) | (cases h;exact wR)
theorem Ypj {σ:ai} {nm:Nat} {ρ:Operand→ae} {op:Op} {r:ae} {σ':ai} (h:c9 P σ nm ρ op=some (r,σ')) : σ.length≤σ'.length:=by
 have mp:∀ {x:Option ae} (_:x.map (·,σ)=some (r,σ')),σ.length≤σ'.length:=by
  intro x hx
  obtain ⟨a,_,h2⟩:=aH.1 hx
  simp only [bx] at h2
  rw [h2.2];exact ah _
 cases op with
 | move x=>simp only [c9,aG,bx] at h;rw [h.2];exact ah _
 | assign x=>simp only [c9,aG,bx] at h;rw [h.2];exact ah _
 | pick c a b=>exact mp h
 | alloc t =>
  simp only [c9] at h
  obtain ⟨l,hl,h1⟩:=au.1 h
  simp only [aG,bx] at h1
  rw [← h1.2];exact wR
 | box t x =>
  simp only [c9] at h
  obtain ⟨l,hl,h1⟩:=au.1 h
  split at h1
  ·simp only [aG,bx] at h1
   rw [← h1.2];exact wR
  ·cases h1
 | build t parts=>simp only [c9] at h;obtain ⟨T,hT,h1⟩:=au.1 h;exact mp h1
 | buildSlice t n parts =>
  simp only [c9] at h
  obtain ⟨T,hT,h1⟩:=au.1 h
  obtain ⟨e,he,h2⟩:=au.1 h1
  obtain ⟨es,oO,h3⟩:=au.1 h2
  split at h3
  ·simp only [aG,bx] at h3
   rw [← h3.2];exact wR
  ·cases h3
 | load t x=>simp only [c9] at h;obtain ⟨T,hT,h1⟩:=au.1 h;exact mp h1
 | store t x v =>
  simp only [c9] at h
  obtain ⟨l,hl,h1⟩:=au.1 h
  obtain ⟨s,h2,h3⟩:=aH.1 h1
  simp only [bx] at h3
  obtain ⟨_,rfl⟩:=h3
  unfold mD at h2
  repeat' split at h2
  all_goals first | (cases h2;done) | (cases h2;exact wR)
 | nilCheck x =>
  simp only [c9] at h
  repeat' split at h
  all_goals first | (cases h;done) | (cases h;exact ah _)
 | binOp op t x y u=>exact mp h
 | unOp op t x=>exact mp h
 | convert s d x=>exact mp h
 | makeInterface t x =>
  simp only [c9] at h
  repeat' split at h
  all_goals first | (cases h;done) | (cases h;exact ah _)
 | makeFunc fn first captured =>
  cases fn<;>simp only [c9,reduceCtorEq,aG,bx] at h
  rw [h.2];exact ah _
 | makeMap t r' =>
  cases r'<;>simp only [c9,reduceCtorEq,aG,bx] at h
  rw [← h.2];exact wR
 | makeSlice t l c =>
  simp only [c9] at h
  obtain ⟨T,hT,h1⟩:=au.1 h
  unfold j5 at h1
  repeat' split at h1
  all_goals first | (cases h1;done) | (cases h1;exact wR)
 | slice t x lo hi mx=>simp only [c9] at h;obtain ⟨T,hT,h1⟩:=au.1 h;exact mp h1
 | fieldAddr t x i=>simp only [c9] at h;obtain ⟨T,hT,h1⟩:=au.1 h;exact mp h1
 | field t x i=>simp only [c9] at h;obtain ⟨T,hT,h1⟩:=au.1 h;exact mp h1
 | indexAddr t x i=>simp only [c9] at h;obtain ⟨T,hT,h1⟩:=au.1 h;exact mp h1
 | index t x i=>simp only [c9] at h;obtain ⟨T,hT,h1⟩:=au.1 h;exact mp h1
 | lookup t x i ok=>simp only [c9] at h;obtain ⟨T,hT,h1⟩:=au.1 h;exact mp h1
 | mapUpdate t m k v | insert t m k v =>
  simp only [c9] at h
  obtain ⟨T,hT,h1⟩:=au.1 h
  obtain ⟨s,h2,h3⟩:=aH.1 h1
  simp only [bx] at h3
  obtain ⟨_,rfl⟩:=h3
  unfold gG at h2
  repeat' split at h2
  all_goals first | (cases h2;done) | (cases h2;exact wR)
 | range t x =>
  simp only [c9] at h
  obtain ⟨T,hT,h1⟩:=au.1 h
  repeat' split at h1
  all_goals first | (cases h1;done) | (cases h1;exact wR)
 | next x s =>
  cases s with
  | true =>
   simp only [c9,nt] at h
   repeat' split at h
   all_goals first | (cases h;done) | (cases h;first | exact wR | exact ah _)
  | false=>simp [c9] at h
 | entry x =>
  simp only [c9,oG] at h
  repeat' split at h
  all_goals first | (cases h;done) | (cases h;exact ah _)
 | typeAssert x t u ok=>exact mp h
 | extract x i =>
  simp only [c9] at h
  split at h
  ·exact mp h
  ·cases h
 | call c =>
  obtain ⟨callee,args,ts⟩:=c
  cases callee with
  | builtin b =>
   simp only [c9] at h
   unfold fc at h
   split at h
   ·obtain ⟨T,hT,h1⟩:=au.1 h
    split at h1
    ·cases h1;exact ah _
    ·obtain ⟨n,_,h3⟩:=aH.1 h1;cases h3;exact ah _
    ·obtain ⟨n,_,h3⟩:=aH.1 h1;cases h3;exact ah _
    ·obtain ⟨n,_,h3⟩:=aH.1 h1;cases h3;exact ah _
    ·cases h1
   ·obtain ⟨T,hT,h1⟩:=au.1 h
    obtain ⟨U,hU,h2⟩:=au.1 h1
    split at h2
    ·obtain ⟨xs,_,h3⟩:=au.1 h2;exact Kj h3
    ·split at h2
     ·split at h2
      ·exact Kj h2
      ·cases h2
     ·cases h2
    ·split at h2
     ·split at h2
      ·exact Kj h2
      ·cases h2
     ·cases h2
    ·cases h2
   ·obtain ⟨T,hT,h1⟩:=au.1 h
    split at h1
    ·obtain ⟨n,_,h3⟩:=aH.1 h1;cases h3;exact ah _
    ·cases h1
   ·obtain ⟨T,hT,h1⟩:=au.1 h
    split at h1
    ·obtain ⟨n,_,h3⟩:=au.1 h1
     split at h3
     ·cases h3;exact ah _
     ·obtain ⟨s1,h4,h5⟩:=aH.1 h3;cases h5;exact SU h4
    ·cases h1
   ·obtain ⟨T,hT,h1⟩:=au.1 h
    obtain ⟨U,hU,h2⟩:=au.1 h1
    split at h2
    ·obtain ⟨n,_,h3⟩:=au.1 h2
     obtain ⟨xs,_,h3⟩:=au.1 h3
     obtain ⟨s1,h4,h5⟩:=aH.1 h3;cases h5;exact SU h4
    ·cases h2
   ·exact mp h
   ·exact mp h
   ·cases h
  | _=>simp [c9] at h
 | _=>simp [c9] at h
theorem mg.Ht {lo:Ctx} {ops:Array Oper} {rs:List Nat} {i:Nat} {rest:List Nat} {o:Oper} {st:St} {Q:cb→St→Prop} (ho:ops[i]? = some o) (hg:my ops st.tm o=some true)
  (h:wc P o st fun s=>mg P lo ops rs rest s Q):mg P lo ops rs (i :: rest) st Q:=by
 unfold wc at h
 split at h
 ·rename_i f args ts hop
  exact mg.call ho hg hop h
 ·obtain ⟨r,σ',h1,h2⟩:=h
  exact mg.op ho hg h1 (fun hl=>cV hl (Ypj h1)) h2
theorem Z9 {o:Oper} {st:St} {K K':St→Prop} (h:wc P o st K) (hk:∀ s,K s→K' s):wc P o st K':=by
 unfold wc at h ⊢
 split at h
 ·exact h.mono fun r s q=>hk _ q
 ·obtain ⟨r,σ',h1,h2⟩:=h
  exact ⟨r,σ',h1,hk _ h2⟩
end
end Go.c8
