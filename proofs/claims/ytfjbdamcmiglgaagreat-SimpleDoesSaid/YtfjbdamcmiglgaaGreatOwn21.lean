/- Part 21 of what the claim rests on. -/
import Derived.Test.YtfjbdamcmiglgaaGreatOwn20
set_option linter.all false
abbrev jf:=@List.map_congr_left
namespace Go.dq
open Go
theorem V4 {fl:List (Nat×Option fL)} {ρ zA:Operand->ah}:∀(ps:List (Nat×Operand)) (cs:List ah),(∀p∈ps,ρ p.2 = zA p.2)->lI fl ρ cs ps=lI fl zA cs ps
 |[],_,_=>rfl
 | (i,x):: ps,cs,h=>by
  have h0:=h (i,x) (by simp);simp only at h0;simp only[lI,h0];split
  ·split
   ·exact V4 ps _ λp hp=>h p (by simp[hp])
   ·rfl
  ·rfl
theorem WX {e:fL} {ρ zA:Operand->ah}:∀(ps:List (Nat×Operand)) (k:Nat),(∀p∈ps,ρ p.2 = zA p.2)->rM e ρ k ps=rM e zA k ps
 |[],_,_=>rfl
 |(i,x):: ps,k,h=>by
  have h0:=h (i,x) (by simp);simp only at h0;simp only[rM,h0,WX ps (k+1) λp hp=>h p (by simp[hp])]
theorem Yg4 {P:Program} {σ:av} {nm:Nat} {ρ zA:Operand->ah} (op:Op) (h:∀x∈op.operands,ρ x = zA x):dJ P σ nm ρ op=dJ P σ nm zA op:=by
 cases op<;>simp only[Op.operands]at h<;>try (first|rfl | (simp only[dJ];simp_all;done))
 case build t ps =>
  simp only[dJ,pX];have h':∀p∈ps.toList,ρ p.2 = zA p.2:=λp hp=>h p.2 (by simp;exact⟨p.1,by simpa using hp⟩);simp only[V4 ps.toList _ h']
 case buildSlice t n ps =>
  simp only[dJ];have h':∀p∈ps.toList,ρ p.2 = zA p.2:=λp hp=>h p.2 (by simp;exact⟨p.1,by simpa using hp⟩);simp only[WX ps.toList _ h']
 case makeFunc fn first captured =>
  cases fn<;>try rfl
  simp only[dJ];have h1:first.toList.map ρ=first.toList.map zA:=jf λx hx=>h x (by simp at hx;simp[hx])
  have h2:captured.toList.map ρ=captured.toList.map zA:=jf λx hx=>h x (by simp at hx;simp[hx]);rw[h1,h2]
 case call c =>
  obtain⟨callee,args,ts⟩:=c;cases callee<;>try rfl
  simp only[dJ];have h1:args.toList.map ρ=args.toList.map zA:=jf λx hx=>h x (by simp at hx;simp[Call.operands,hx]);rw[h1]
 case makeMap t r=>cases r<;>rfl
 case slice t x lo hi mx=>cases lo<;>cases hi<;>cases mx<;>simp_all [dJ]
 case next it b=>cases b<;>simp_all [dJ]
end Go.dq
