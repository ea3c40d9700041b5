/- Part 21 of my own framework and of the walks of functions: AbsV. -/
import Derived.Test.YtpgnahcljlclcaaGreatOwn20
set_option linter.unusedVariables false
set_option linter.unusedSectionVars false
set_option linter.unusedSimpArgs false
namespace Go.Abs
open Go
theorem Zjh {fl:List (Nat×Option Lay)} {ρ ρ':Operand→AVal}:∀ (ps:List (Nat×Operand)) (cs:List AVal),(∀ p∈ps,ρ p.2 = ρ' p.2)→fillA fl ρ cs ps=fillA fl ρ' cs ps
 | [],_,_=>rfl
 | (i,x) :: ps,cs,h=>by
  have h0:=h (i,x) (by simp)
  simp only at h0
  simp only [fillA,h0]
  split
  ·split
   ·exact Zjh ps _ fun p hp=>h p (by simp [hp])
   ·rfl
  ·rfl
theorem Zm7 {e:Lay} {ρ ρ':Operand→AVal}:∀ (ps:List (Nat×Operand)) (k:Nat),(∀ p∈ps,ρ p.2 = ρ' p.2)→rowA e ρ k ps=rowA e ρ' k ps
 | [],_,_=>rfl
 | (i,x) :: ps,k,h=>by
  have h0:=h (i,x) (by simp)
  simp only at h0
  simp only [rowA,h0,Zm7 ps (k+1) fun p hp=>h p (by simp [hp])]
theorem Zy0 {P:Program} {σ:Store} {nm:Nat} {ρ ρ':Operand→AVal} (op:Op) (h:∀ x∈op.operands,ρ x = ρ' x):opE P σ nm ρ op=opE P σ nm ρ' op:=by
 cases op<;>simp only [Op.operands] at h<;>try (first | rfl | (simp only [opE];simp_all;done))
 case build t ps =>
  simp only [opE,buildA]
  have h':∀ p∈ps.toList,ρ p.2 = ρ' p.2:=fun p hp=>h p.2 (by simp;exact ⟨p.1,by simpa using hp⟩)
  simp only [Zjh ps.toList _ h']
 case buildSlice t n ps =>
  simp only [opE]
  have h':∀ p∈ps.toList,ρ p.2 = ρ' p.2:=fun p hp=>h p.2 (by simp;exact ⟨p.1,by simpa using hp⟩)
  simp only [Zm7 ps.toList _ h']
 case makeFunc fn first captured =>
  cases fn<;>try rfl
  simp only [opE]
  have h1:first.toList.map ρ=first.toList.map ρ':=List.map_congr_left fun x hx=>h x (by simp at hx;simp [hx])
  have h2:captured.toList.map ρ=captured.toList.map ρ':=List.map_congr_left fun x hx=>h x (by simp at hx;simp [hx])
  rw [h1,h2]
 case call c =>
  obtain ⟨callee,args,ts⟩:=c
  cases callee<;>try rfl
  simp only [opE]
  have h1:args.toList.map ρ=args.toList.map ρ':=List.map_congr_left fun x hx=>h x (by simp at hx;simp [Call.operands,hx])
  rw [h1]
 case makeMap t r=>cases r<;>rfl
 case slice t x lo hi mx=>cases lo<;>cases hi<;>cases mx<;>simp_all [opE]
 case next it b=>cases b<;>simp_all [opE]
end Go.Abs
