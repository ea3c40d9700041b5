/- Part 13 of my own framework and of the walks of functions: AbsO. -/
import Derived.Test.YtfjbdamcmiglgaaGreatOwn12
set_option linter.unusedVariables false
set_option linter.unusedSectionVars false
set_option linter.unusedSimpArgs false
namespace Go.cV
open Go
def vT (P:Program) (o:Oper) (st:St) (K:St→Prop):Prop :=
 match o.op with
 | .call { callee:=.value f,args, .. }=>aq P (ev st.tm f) (args.toList.map (ev st.tm)) st.σ fun r σ'=>K ⟨put st.tm o.dst r,σ'⟩
 | op=>∃ r σ',cY P st.σ st.σ.length (ev st.tm) op=some (r,σ')∧K ⟨put st.tm o.dst r,σ'⟩
section
variable {P:Program}
theorem wG {σ:ai} {nm:Nat} {b:bE} : σ.length≤(b_ σ nm b).length:=A6 σ nm b
theorem JU {σ:ai} {nm:Nat} {e:eI} {s:ae} {xs:List ae} {r:ae} {σ':ai} (h:ef σ nm e s xs=some (r,σ')) : σ.length≤σ'.length:=by
 unfold ef nx l5 at h
 repeat' split at h
 all_goals first | (cases h;done) | (cases h;first | exact ah _ | exact wG | (refine cR ?_ wG;simp))
theorem RO {σ:ai} {sz:Nat} {s:ae} {xs:List ae} {σ':ai} (h:kh σ sz s xs=some σ') : σ.length≤σ'.length:=by
 unfold kh at h
 repeat' split at h
 all_goals first | (cases h;done) | (cases h;exact wG)
theorem Yq2 {σ:ai} {nm:Nat} {ρ:Operand→ae} {op:Op} {r:ae} {σ':ai} (h:cY P σ nm ρ op=some (r,σ')) : σ.length≤σ'.length:=by
 have mp:∀ {x:Option ae} (_:x.map (·,σ)=some (r,σ')),σ.length≤σ'.length:=by
  intro x hx
  obtain ⟨a,_,h2⟩:=aG.1 hx
  simp only [bu] at h2
  rw [h2.2];exact ah _
 cases op with
 | move x=>simp only [cY,aE,bu] at h;rw [h.2];exact ah _
 | assign x=>simp only [cY,aE,bu] at h;rw [h.2];exact ah _
 | pick c a b=>exact mp h
 | alloc t =>
  simp only [cY] at h
  obtain ⟨l,hl,h1⟩:=ax.1 h
  simp only [aE,bu] at h1
  rw [← h1.2];exact wG
 | box t x =>
  simp only [cY] at h
  obtain ⟨l,hl,h1⟩:=ax.1 h
  split at h1
  ·simp only [aE,bu] at h1
   rw [← h1.2];exact wG
  ·cases h1
 | build t parts=>simp only [cY] at h;obtain ⟨T,hT,h1⟩:=ax.1 h;exact mp h1
 | buildSlice t n parts =>
  simp only [cY] at h
  obtain ⟨T,hT,h1⟩:=ax.1 h
  obtain ⟨e,he,h2⟩:=ax.1 h1
  obtain ⟨es,oB,h3⟩:=ax.1 h2
  split at h3
  ·simp only [aE,bu] at h3
   rw [← h3.2];exact wG
  ·cases h3
 | load t x=>simp only [cY] at h;obtain ⟨T,hT,h1⟩:=ax.1 h;exact mp h1
 | store t x v =>
  simp only [cY] at h
  obtain ⟨l,hl,h1⟩:=ax.1 h
  obtain ⟨s,h2,h3⟩:=aG.1 h1
  simp only [bu] at h3
  obtain ⟨_,rfl⟩:=h3
  unfold mg at h2
  repeat' split at h2
  all_goals first | (cases h2;done) | (cases h2;exact wG)
 | nilCheck x =>
  simp only [cY] at h
  repeat' split at h
  all_goals first | (cases h;done) | (cases h;exact ah _)
 | binOp op t x y u=>exact mp h
 | unOp op t x=>exact mp h
 | convert s d x=>exact mp h
 | makeInterface t x =>
  simp only [cY] at h
  repeat' split at h
  all_goals first | (cases h;done) | (cases h;exact ah _)
 | makeFunc fn first captured =>
  cases fn<;>simp only [cY,reduceCtorEq,aE,bu] at h
  rw [h.2];exact ah _
 | makeMap t r' =>
  cases r'<;>simp only [cY,reduceCtorEq,aE,bu] at h
  rw [← h.2];exact wG
 | makeSlice t l c =>
  simp only [cY] at h
  obtain ⟨T,hT,h1⟩:=ax.1 h
  unfold jP at h1
  repeat' split at h1
  all_goals first | (cases h1;done) | (cases h1;exact wG)
 | slice t x lo hi mx=>simp only [cY] at h;obtain ⟨T,hT,h1⟩:=ax.1 h;exact mp h1
 | fieldAddr t x i=>simp only [cY] at h;obtain ⟨T,hT,h1⟩:=ax.1 h;exact mp h1
 | field t x i=>simp only [cY] at h;obtain ⟨T,hT,h1⟩:=ax.1 h;exact mp h1
 | indexAddr t x i=>simp only [cY] at h;obtain ⟨T,hT,h1⟩:=ax.1 h;exact mp h1
 | index t x i=>simp only [cY] at h;obtain ⟨T,hT,h1⟩:=ax.1 h;exact mp h1
 | lookup t x i ok=>simp only [cY] at h;obtain ⟨T,hT,h1⟩:=ax.1 h;exact mp h1
 | mapUpdate t m k v | insert t m k v =>
  simp only [cY] at h
  obtain ⟨T,hT,h1⟩:=ax.1 h
  obtain ⟨s,h2,h3⟩:=aG.1 h1
  simp only [bu] at h3
  obtain ⟨_,rfl⟩:=h3
  unfold gk at h2
  repeat' split at h2
  all_goals first | (cases h2;done) | (cases h2;exact wG)
 | range t x =>
  simp only [cY] at h
  obtain ⟨T,hT,h1⟩:=ax.1 h
  repeat' split at h1
  all_goals first | (cases h1;done) | (cases h1;exact wG)
 | next x s =>
  cases s with
  | true =>
   simp only [cY,m_] at h
   repeat' split at h
   all_goals first | (cases h;done) | (cases h;first | exact wG | exact ah _)
  | false=>simp [cY] at h
 | entry x =>
  simp only [cY,oo] at h
  repeat' split at h
  all_goals first | (cases h;done) | (cases h;exact ah _)
 | typeAssert x t u ok=>exact mp h
 | extract x i =>
  simp only [cY] at h
  split at h
  ·exact mp h
  ·cases h
 | call c =>
  obtain ⟨callee,args,ts⟩:=c
  cases callee with
  | builtin b =>
   simp only [cY] at h
   unfold e7 at h
   split at h
   ·obtain ⟨T,hT,h1⟩:=ax.1 h
    split at h1
    ·cases h1;exact ah _
    ·obtain ⟨n,_,h3⟩:=aG.1 h1;cases h3;exact ah _
    ·obtain ⟨n,_,h3⟩:=aG.1 h1;cases h3;exact ah _
    ·obtain ⟨n,_,h3⟩:=aG.1 h1;cases h3;exact ah _
    ·cases h1
   ·obtain ⟨T,hT,h1⟩:=ax.1 h
    obtain ⟨U,hU,h2⟩:=ax.1 h1
    split at h2
    ·obtain ⟨xs,_,h3⟩:=ax.1 h2;exact JU h3
    ·split at h2
     ·split at h2
      ·exact JU h2
      ·cases h2
     ·cases h2
    ·split at h2
     ·split at h2
      ·exact JU h2
      ·cases h2
     ·cases h2
    ·cases h2
   ·obtain ⟨T,hT,h1⟩:=ax.1 h
    split at h1
    ·obtain ⟨n,_,h3⟩:=aG.1 h1;cases h3;exact ah _
    ·cases h1
   ·obtain ⟨T,hT,h1⟩:=ax.1 h
    split at h1
    ·obtain ⟨n,_,h3⟩:=ax.1 h1
     split at h3
     ·cases h3;exact ah _
     ·obtain ⟨s1,h4,h5⟩:=aG.1 h3;cases h5;exact RO h4
    ·cases h1
   ·obtain ⟨T,hT,h1⟩:=ax.1 h
    obtain ⟨U,hU,h2⟩:=ax.1 h1
    split at h2
    ·obtain ⟨n,_,h3⟩:=ax.1 h2
     obtain ⟨xs,_,h3⟩:=ax.1 h3
     obtain ⟨s1,h4,h5⟩:=aG.1 h3;cases h5;exact RO h4
    ·cases h2
   ·exact mp h
   ·exact mp h
   ·cases h
  | _=>simp [cY] at h
 | _=>simp [cY] at h
theorem lW.G7 {lo:Ctx} {ops:Array Oper} {rs:List Nat} {i:Nat} {rest:List Nat} {o:Oper} {st:St} {Q:cb→St→Prop} (ho:ops[i]? = some o) (hg:l8 ops st.tm o=some true)
  (h:vT P o st fun s=>lW P lo ops rs rest s Q):lW P lo ops rs (i :: rest) st Q:=by
 unfold vT at h
 split at h
 ·rename_i f args ts hop
  exact lW.call ho hg hop h
 ·obtain ⟨r,σ',h1,h2⟩:=h
  exact lW.op ho hg h1 (fun hl=>cR hl (Yq2 h1)) h2
theorem Yq {o:Oper} {st:St} {K K':St→Prop} (h:vT P o st K) (hk:∀ s,K s→K' s):vT P o st K':=by
 unfold vT at h ⊢
 split at h
 ·exact h.mono fun r s q=>hk _ q
 ·obtain ⟨r,σ',h1,h2⟩:=h
  exact ⟨r,σ',h1,hk _ h2⟩
end
end Go.cV
