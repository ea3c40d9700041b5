/- Part 13 of what the claim rests on. -/
import Derived.Test.YtfjbdamcmiglgaaGreatOwn12
set_option linter.all false
namespace Go.dq
open Go
def yh (P:Program)(o:Oper)(st:St)(K:St->Prop):Prop :=
 match o.op with
 |.call { callee:=.value f,args,.. }=>ak P (ev st.tm f) (args.toList.map (ev st.tm)) st.σ λr σ'=>K ⟨put st.tm o.dst r,σ'⟩
 |op=>∃r σ',dJ P st.σ st.σ.length (ev st.tm) op=some (r,σ')/\K ⟨put st.tm o.dst r,σ'⟩
section
variable {P:Program}
theorem yX {σ:av}{nm:Nat}{b:bS} : σ.length<=(cJ σ nm b).length:=DI σ nm b
theorem NC {σ:av}{nm:Nat}{e:fL}{s:ah}{xs:List ah}{r:ah}{σ':av}(h:fm σ nm e s xs=some (r,σ')): σ.length<=σ'.length:=by
 unfold fm o9 nK at h
 repeat' split at h
 all_goals first | (cases h;done) | (cases h;first|exact ae _|exact yX | (refine dg ?_ yX;simp))
theorem YA {σ:av}{sz:Nat}{s:ah}{xs:List ah}{σ':av}(h:lK σ sz s xs=some σ'): σ.length<=σ'.length:=by
 unfold lK at h
 repeat' split at h
 all_goals first | (cases h;done) | (cases h;exact yX)
theorem Yt6 {σ:av} {nm:Nat} {ρ:Operand->ah} {op:Op} {r:ah} {σ':av} (h:dJ P σ nm ρ op=some (r,σ')): σ.length<=σ'.length:=by
 have mp:∀ {x:Option ah} (_:x.map (·,σ)=some (r,σ')),σ.length<=σ'.length:=by
  intro x hx;obtain⟨a,_,h2⟩:=aP.1 hx;simp only[bM]at h2;rw[h2.2];exact ae _
 cases op with
 |move x=>simp only[dJ,aM,bM]at h;rw[h.2];exact ae _
 |assign x=>simp only[dJ,aM,bM]at h;rw[h.2];exact ae _
 |pick c a b=>exact mp h
 |alloc t =>
  simp only[dJ]at h;obtain⟨l,hl,h1⟩:=aB.1 h;simp only[aM,bM]at h1;rw[<-h1.2];exact yX
 |box t x =>
  simp only[dJ]at h;obtain⟨l,hl,h1⟩:=aB.1 h;split at h1
  ·simp only[aM,bM]at h1;rw[<-h1.2];exact yX
  ·cases h1
 |build t parts=>simp only[dJ]at h;obtain⟨T,hT,h1⟩:=aB.1 h;exact mp h1
 |buildSlice t n parts =>
  simp only[dJ]at h;obtain⟨T,hT,h1⟩:=aB.1 h;obtain⟨e,he,h2⟩:=aB.1 h1;obtain⟨es,kp,h3⟩:=aB.1 h2;split at h3
  ·simp only[aM,bM]at h3;rw[<-h3.2];exact yX
  ·cases h3
 |load t x=>simp only[dJ]at h;obtain⟨T,hT,h1⟩:=aB.1 h;exact mp h1
 |store t x v =>
  simp only[dJ]at h;obtain⟨l,hl,h1⟩:=aB.1 h;obtain⟨s,h2,h3⟩:=aP.1 h1;simp only[bM]at h3;obtain⟨_,rfl⟩:=h3;unfold nX at h2
  repeat' split at h2
  all_goals first | (cases h2;done) | (cases h2;exact yX)
 |nilCheck x =>
  simp only[dJ]at h
  repeat' split at h
  all_goals first | (cases h;done) | (cases h;exact ae _)
 |binOp op t x y u=>exact mp h
 |unOp op t x=>exact mp h
 |convert s d x=>exact mp h
 |makeInterface t x =>
  simp only[dJ]at h
  repeat' split at h
  all_goals first | (cases h;done) | (cases h;exact ae _)
 |makeFunc fn first captured =>
  cases fn<;>simp only[dJ,reduceCtorEq,aM,bM]at h;rw[h.2];exact ae _
 |makeMap t r' =>
  cases r'<;>simp only[dJ,reduceCtorEq,aM,bM]at h;rw[<-h.2];exact yX
 |makeSlice t l c =>
  simp only[dJ]at h;obtain⟨T,hT,h1⟩:=aB.1 h;unfold kM at h1
  repeat' split at h1
  all_goals first | (cases h1;done) | (cases h1;exact yX)
 |slice t x lo hi mx=>simp only[dJ]at h;obtain⟨T,hT,h1⟩:=aB.1 h;exact mp h1
 |fieldAddr t x i=>simp only[dJ]at h;obtain⟨T,hT,h1⟩:=aB.1 h;exact mp h1
 |field t x i=>simp only[dJ]at h;obtain⟨T,hT,h1⟩:=aB.1 h;exact mp h1
 |indexAddr t x i=>simp only[dJ]at h;obtain⟨T,hT,h1⟩:=aB.1 h;exact mp h1
 |index t x i=>simp only[dJ]at h;obtain⟨T,hT,h1⟩:=aB.1 h;exact mp h1
 |lookup t x i ok=>simp only[dJ]at h;obtain⟨T,hT,h1⟩:=aB.1 h;exact mp h1
 |mapUpdate t m k v|insert t m k v =>
  simp only[dJ]at h;obtain⟨T,hT,h1⟩:=aB.1 h;obtain⟨s,h2,h3⟩:=aP.1 h1;simp only[bM]at h3;obtain⟨_,rfl⟩:=h3;unfold jk at h2
  repeat' split at h2
  all_goals first | (cases h2;done) | (cases h2;exact yX)
 |range t x =>
  simp only[dJ]at h;obtain⟨T,hT,h1⟩:=aB.1 h
  repeat' split at h1
  all_goals first | (cases h1;done) | (cases h1;exact yX)
 | next x s =>
  cases s with
  |true =>
   simp only[dJ,qD]at h
   repeat' split at h
   all_goals first | (cases h;done) | (cases h;first|exact yX|exact ae _)
  |false=>simp[dJ]at h
 |entry x =>
  simp only[dJ,p0]at h
  repeat' split at h
  all_goals first | (cases h;done) | (cases h;exact ae _)
 |typeAssert x t u ok=>exact mp h
 |extract x i =>
  simp only[dJ]at h;split at h
  ·exact mp h
  ·cases h
 | call c =>
  obtain⟨callee,args,ts⟩:=c;cases callee with
  | builtin b =>
   simp only[dJ]at h;unfold gp at h;split at h
   ·obtain⟨T,hT,h1⟩:=aB.1 h;split at h1
    ·cases h1;exact ae _
    ·obtain⟨n,_,h3⟩:=aP.1 h1;cases h3;exact ae _
    ·obtain⟨n,_,h3⟩:=aP.1 h1;cases h3;exact ae _
    ·obtain⟨n,_,h3⟩:=aP.1 h1;cases h3;exact ae _
    ·cases h1
   ·obtain ⟨T,hT,h1⟩:=aB.1 h;obtain⟨U,hU,h2⟩:=aB.1 h1;split at h2
    ·obtain⟨xs,_,h3⟩:=aB.1 h2;exact NC h3
    ·split at h2
     ·split at h2
      ·exact NC h2
      ·cases h2
     ·cases h2
    ·split at h2
     ·split at h2
      ·exact NC h2
      ·cases h2
     ·cases h2
    ·cases h2
   ·obtain⟨T,hT,h1⟩:=aB.1 h;split at h1
    ·obtain⟨n,_,h3⟩:=aP.1 h1;cases h3;exact ae _
    ·cases h1
   ·obtain ⟨T,hT,h1⟩:=aB.1 h;split at h1
    ·obtain⟨n,_,h3⟩:=aB.1 h1;split at h3
     ·cases h3;exact ae _
     ·obtain⟨s1,h4,h5⟩:=aP.1 h3;cases h5;exact YA h4
    ·cases h1
   ·obtain⟨T,hT,h1⟩:=aB.1 h;obtain⟨U,hU,h2⟩:=aB.1 h1;split at h2
    ·obtain⟨n,_,h3⟩:=aB.1 h2;obtain⟨xs,_,h3⟩:=aB.1 h3;obtain⟨s1,h4,h5⟩:=aP.1 h3;cases h5;exact YA h4
    ·cases h2
   ·exact mp h
   ·exact mp h
   ·cases h
  |_=>simp[dJ]at h
 |_=>simp[dJ]at h
theorem mR.Ka {lo:Ctx} {ops:Array Oper} {rs:List Nat} {i:Nat} {rest:List Nat} {o:Oper} {st:St} {Q:cB->St->Prop} (ho:ops[i]? = some o) (hg:nc ops st.tm o=some true)
  (h:yh P o st λs=>mR P lo ops rs rest s Q):mR P lo ops rs (i :: rest) st Q:=by
 unfold yh at h;split at h
 ·rename_i f args ts hop;exact mR.call ho hg hop h
 ·obtain⟨r,σ',h1,h2⟩:=h;exact mR.op ho hg h1 (λhl=>dg hl (Yt6 h1)) h2
theorem Yeu {o:Oper}{st:St}{K K':St->Prop}(h:yh P o st K)(hk:∀s,K s->K' s):yh P o st K':=by
 unfold yh at h ⊢;split at h
 ·exact h.mono λr s q=>hk _ q
 ·obtain⟨r,σ',h1,h2⟩:=h;exact⟨r,σ',h1,hk _ h2⟩
end
end Go.dq
