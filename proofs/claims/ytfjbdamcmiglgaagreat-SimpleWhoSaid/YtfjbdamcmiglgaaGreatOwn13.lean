/- Part 13 of my own framework and of the walks of functions: AbsO. -/
import Derived.Test.YtfjbdamcmiglgaaGreatOwn12
set_option linter.unusedVariables false
set_option linter.unusedSectionVars false
set_option linter.unusedSimpArgs false
namespace Go.c8
open Go
def vM (P:Program) (o:Oper) (st:St) (K:St→Prop):Prop :=
 match o.op with
 | .call { callee:=.value f,args, .. }=>aq P (ev st.tm f) (args.toList.map (ev st.tm)) st.σ fun r σ'=>K ⟨put st.tm o.dst r,σ'⟩
 | op=>∃ r σ',cY P st.σ st.σ.length (ev st.tm) op=some (r,σ')∧K ⟨put st.tm o.dst r,σ'⟩
section
variable {P:Program}
theorem wz {σ:ai} {nm:Nat} {b:bE} : σ.length≤(bZ σ nm b).length:=A0 σ nm b
theorem JL {σ:ai} {nm:Nat} {e:eF} {s:ae} {xs:List ae} {r:ae} {σ':ai} (h:dY σ nm e s xs=some (r,σ')) : σ.length≤σ'.length:=by
 unfold dY nt l7 at h
 repeat' split at h
 all_goals first | (cases h;done) | (cases h;first | exact ah _ | exact wz | (refine cP ?_ wz;simp))
theorem RN {σ:ai} {sz:Nat} {s:ae} {xs:List ae} {σ':ai} (h:kj σ sz s xs=some σ') : σ.length≤σ'.length:=by
 unfold kj at h
 repeat' split at h
 all_goals first | (cases h;done) | (cases h;exact wz)
theorem Ypa {σ:ai} {nm:Nat} {ρ:Operand→ae} {op:Op} {r:ae} {σ':ai} (h:cY P σ nm ρ op=some (r,σ')) : σ.length≤σ'.length:=by
 have mp:∀ {x:Option ae} (_:x.map (·,σ)=some (r,σ')),σ.length≤σ'.length:=by
  intro x hx
  obtain ⟨a,_,h2⟩:=aH.1 hx
  simp only [bw] at h2
  rw [h2.2];exact ah _
 cases op with
 | move x=>simp only [cY,aG,bw] at h;rw [h.2];exact ah _
 | assign x=>simp only [cY,aG,bw] at h;rw [h.2];exact ah _
 | pick c a b=>exact mp h
 | alloc t =>
  simp only [cY] at h
  obtain ⟨l,hl,h1⟩:=au.1 h
  simp only [aG,bw] at h1
  rw [← h1.2];exact wz
 | box t x =>
  simp only [cY] at h
  obtain ⟨l,hl,h1⟩:=au.1 h
  split at h1
  ·simp only [aG,bw] at h1
   rw [← h1.2];exact wz
  ·cases h1
 | build t parts=>simp only [cY] at h;obtain ⟨T,hT,h1⟩:=au.1 h;exact mp h1
 | buildSlice t n parts =>
  simp only [cY] at h
  obtain ⟨T,hT,h1⟩:=au.1 h
  obtain ⟨e,he,h2⟩:=au.1 h1
  obtain ⟨es,ow,h3⟩:=au.1 h2
  split at h3
  ·simp only [aG,bw] at h3
   rw [← h3.2];exact wz
  ·cases h3
 | load t x=>simp only [cY] at h;obtain ⟨T,hT,h1⟩:=au.1 h;exact mp h1
 | store t x v =>
  simp only [cY] at h
  obtain ⟨l,hl,h1⟩:=au.1 h
  obtain ⟨s,h2,h3⟩:=aH.1 h1
  simp only [bw] at h3
  obtain ⟨_,rfl⟩:=h3
  unfold mj at h2
  repeat' split at h2
  all_goals first | (cases h2;done) | (cases h2;exact wz)
 | nilCheck x =>
  simp only [cY] at h
  repeat' split at h
  all_goals first | (cases h;done) | (cases h;exact ah _)
 | binOp op t x y u=>exact mp h
 | unOp op t x=>exact mp h
 | convert s d x=>exact mp h
 | makeInterface t x =>
  simp only [cY] at h
  repeat' split at h
  all_goals first | (cases h;done) | (cases h;exact ah _)
 | makeFunc fn first captured =>
  cases fn<;>simp only [cY,reduceCtorEq,aG,bw] at h
  rw [h.2];exact ah _
 | makeMap t r' =>
  cases r'<;>simp only [cY,reduceCtorEq,aG,bw] at h
  rw [← h.2];exact wz
 | makeSlice t l c =>
  simp only [cY] at h
  obtain ⟨T,hT,h1⟩:=au.1 h
  unfold jP at h1
  repeat' split at h1
  all_goals first | (cases h1;done) | (cases h1;exact wz)
 | slice t x lo hi mx=>simp only [cY] at h;obtain ⟨T,hT,h1⟩:=au.1 h;exact mp h1
 | fieldAddr t x i=>simp only [cY] at h;obtain ⟨T,hT,h1⟩:=au.1 h;exact mp h1
 | field t x i=>simp only [cY] at h;obtain ⟨T,hT,h1⟩:=au.1 h;exact mp h1
 | indexAddr t x i=>simp only [cY] at h;obtain ⟨T,hT,h1⟩:=au.1 h;exact mp h1
 | index t x i=>simp only [cY] at h;obtain ⟨T,hT,h1⟩:=au.1 h;exact mp h1
 | lookup t x i ok=>simp only [cY] at h;obtain ⟨T,hT,h1⟩:=au.1 h;exact mp h1
 | mapUpdate t m k v | insert t m k v =>
  simp only [cY] at h
  obtain ⟨T,hT,h1⟩:=au.1 h
  obtain ⟨s,h2,h3⟩:=aH.1 h1
  simp only [bw] at h3
  obtain ⟨_,rfl⟩:=h3
  unfold gp at h2
  repeat' split at h2
  all_goals first | (cases h2;done) | (cases h2;exact wz)
 | range t x =>
  simp only [cY] at h
  obtain ⟨T,hT,h1⟩:=au.1 h
  repeat' split at h1
  all_goals first | (cases h1;done) | (cases h1;exact wz)
 | next x s =>
  cases s with
  | true =>
   simp only [cY,m_] at h
   repeat' split at h
   all_goals first | (cases h;done) | (cases h;first | exact wz | exact ah _)
  | false=>simp [cY] at h
 | entry x =>
  simp only [cY,oh] at h
  repeat' split at h
  all_goals first | (cases h;done) | (cases h;exact ah _)
 | typeAssert x t u ok=>exact mp h
 | extract x i =>
  simp only [cY] at h
  split at h
  ·exact mp h
  ·cases h
 | call c =>
  obtain ⟨callee,args,ts⟩:=c
  cases callee with
  | builtin b =>
   simp only [cY] at h
   unfold eX at h
   split at h
   ·obtain ⟨T,hT,h1⟩:=au.1 h
    split at h1
    ·cases h1;exact ah _
    ·obtain ⟨n,_,h3⟩:=aH.1 h1;cases h3;exact ah _
    ·obtain ⟨n,_,h3⟩:=aH.1 h1;cases h3;exact ah _
    ·obtain ⟨n,_,h3⟩:=aH.1 h1;cases h3;exact ah _
    ·cases h1
   ·obtain ⟨T,hT,h1⟩:=au.1 h
    obtain ⟨U,hU,h2⟩:=au.1 h1
    split at h2
    ·obtain ⟨xs,_,h3⟩:=au.1 h2;exact JL h3
    ·split at h2
     ·split at h2
      ·exact JL h2
      ·cases h2
     ·cases h2
    ·split at h2
     ·split at h2
      ·exact JL h2
      ·cases h2
     ·cases h2
    ·cases h2
   ·obtain ⟨T,hT,h1⟩:=au.1 h
    split at h1
    ·obtain ⟨n,_,h3⟩:=aH.1 h1;cases h3;exact ah _
    ·cases h1
   ·obtain ⟨T,hT,h1⟩:=au.1 h
    split at h1
    ·obtain ⟨n,_,h3⟩:=au.1 h1
     split at h3
     ·cases h3;exact ah _
     ·obtain ⟨s1,h4,h5⟩:=aH.1 h3;cases h5;exact RN h4
    ·cases h1
   ·obtain ⟨T,hT,h1⟩:=au.1 h
    obtain ⟨U,hU,h2⟩:=au.1 h1
    split at h2
    ·obtain ⟨n,_,h3⟩:=au.1 h2
     obtain ⟨xs,_,h3⟩:=au.1 h3
     obtain ⟨s1,h4,h5⟩:=aH.1 h3;cases h5;exact RN h4
    ·cases h2
   ·exact mp h
   ·exact mp h
   ·cases h
  | _=>simp [cY] at h
 | _=>simp [cY] at h
theorem lY.G0 {lo:Ctx} {ops:Array Oper} {rs:List Nat} {i:Nat} {rest:List Nat} {o:Oper} {st:St} {Q:b9→St→Prop} (ho:ops[i]? = some o) (hg:mc ops st.tm o=some true)
  (h:vM P o st fun s=>lY P lo ops rs rest s Q):lY P lo ops rs (i :: rest) st Q:=by
 unfold vM at h
 split at h
 ·rename_i f args ts hop
  exact lY.call ho hg hop h
 ·obtain ⟨r,σ',h1,h2⟩:=h
  exact lY.op ho hg h1 (fun hl=>cP hl (Ypa h1)) h2
theorem Yg {o:Oper} {st:St} {K K':St→Prop} (h:vM P o st K) (hk:∀ s,K s→K' s):vM P o st K':=by
 unfold vM at h ⊢
 split at h
 ·exact h.mono fun r s q=>hk _ q
 ·obtain ⟨r,σ',h1,h2⟩:=h
  exact ⟨r,σ',h1,hk _ h2⟩
end
end Go.c8
