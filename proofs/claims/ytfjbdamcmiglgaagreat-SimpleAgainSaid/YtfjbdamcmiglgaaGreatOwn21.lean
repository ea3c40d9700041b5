/- Part 21 of my own framework and of the walks of functions: AbsV. -/
import Derived.Test.YtfjbdamcmiglgaaGreatOwn20
abbrev jT:=@List.map_congr_left
set_option linter.unusedVariables false
set_option linter.unusedSectionVars false
set_option linter.unusedSimpArgs false
namespace Go.c8
open Go
theorem Rt {fl:List (Nat×Option eM)} {ρ xn:Operand→ae}:∀ (ps:List (Nat×Operand)) (cs:List ae),(∀ p∈ps,ρ p.2 = xn p.2)→ky fl ρ cs ps=ky fl xn cs ps
 | [],_,_=>rfl
 | (i,x) :: ps,cs,h=>by
  have h0:=h (i,x) (by simp)
  simp only at h0
  simp only [ky,h0]
  split
  ·split
   ·exact Rt ps _ fun p hp=>h p (by simp [hp])
   ·rfl
  ·rfl
theorem R3 {e:eM} {ρ xn:Operand→ae}:∀ (ps:List (Nat×Operand)) (k:Nat),(∀ p∈ps,ρ p.2 = xn p.2)→pY e ρ k ps=pY e xn k ps
 | [],_,_=>rfl
 | (i,x) :: ps,k,h=>by
  have h0:=h (i,x) (by simp)
  simp only at h0
  simp only [pY,h0,R3 ps (k+1) fun p hp=>h p (by simp [hp])]
theorem Yh7 {P:Program} {σ:ai} {nm:Nat} {ρ xn:Operand→ae} (op:Op) (h:∀ x∈op.operands,ρ x = xn x):c9 P σ nm ρ op=c9 P σ nm xn op:=by
 cases op<;>simp only [Op.operands] at h<;>try (first | rfl | (simp only [c9];simp_all;done))
 case build t ps =>
  simp only [c9,oD]
  have h':∀ p∈ps.toList,ρ p.2 = xn p.2:=fun p hp=>h p.2 (by simp;exact ⟨p.1,by simpa using hp⟩)
  simp only [Rt ps.toList _ h']
 case buildSlice t n ps =>
  simp only [c9]
  have h':∀ p∈ps.toList,ρ p.2 = xn p.2:=fun p hp=>h p.2 (by simp;exact ⟨p.1,by simpa using hp⟩)
  simp only [R3 ps.toList _ h']
 case makeFunc fn first captured =>
  cases fn<;>try rfl
  simp only [c9]
  have h1:first.toList.map ρ=first.toList.map xn:=jT fun x hx=>h x (by simp at hx;simp [hx])
  have h2:captured.toList.map ρ=captured.toList.map xn:=jT fun x hx=>h x (by simp at hx;simp [hx])
  rw [h1,h2]
 case call c =>
  obtain ⟨callee,args,ts⟩:=c
  cases callee<;>try rfl
  simp only [c9]
  have h1:args.toList.map ρ=args.toList.map xn:=jT fun x hx=>h x (by simp at hx;simp [Call.operands,hx])
  rw [h1]
 case makeMap t r=>cases r<;>rfl
 case slice t x lo hi mx=>cases lo<;>cases hi<;>cases mx<;>simp_all [c9]
 case next it b=>cases b<;>simp_all [c9]
end Go.c8
