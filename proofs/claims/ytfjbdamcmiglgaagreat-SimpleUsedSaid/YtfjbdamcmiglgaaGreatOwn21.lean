/- Part 21 of my own framework and of the walks of functions: AbsV. -/
import Derived.Test.YtfjbdamcmiglgaaGreatOwn20
abbrev mn:=@List.map_congr_left
set_option linter.unusedVariables false
set_option linter.unusedSectionVars false
set_option linter.unusedSimpArgs false
namespace Go.cV
open Go
theorem Qv {fl:List (Nat×Option eI)} {ρ xd:Operand→ae}:∀ (ps:List (Nat×Operand)) (cs:List ae),(∀ p∈ps,ρ p.2 = xd p.2)→kf fl ρ cs ps=kf fl xd cs ps
 | [],_,_=>rfl
 | (i,x) :: ps,cs,h=>by
  have h0:=h (i,x) (by simp)
  simp only at h0
  simp only [kf,h0]
  split
  ·split
   ·exact Qv ps _ fun p hp=>h p (by simp [hp])
   ·rfl
  ·rfl
theorem Rp {e:eI} {ρ xd:Operand→ae}:∀ (ps:List (Nat×Operand)) (k:Nat),(∀ p∈ps,ρ p.2 = xd p.2)→pQ e ρ k ps=pQ e xd k ps
 | [],_,_=>rfl
 | (i,x) :: ps,k,h=>by
  have h0:=h (i,x) (by simp)
  simp only at h0
  simp only [pQ,h0,Rp ps (k+1) fun p hp=>h p (by simp [hp])]
theorem YZ {P:Program} {σ:ai} {nm:Nat} {ρ xd:Operand→ae} (op:Op) (h:∀ x∈op.operands,ρ x = xd x):cY P σ nm ρ op=cY P σ nm xd op:=by
 cases op<;>simp only [Op.operands] at h<;>try (first | rfl | (simp only [cY];simp_all;done))
 case build t ps =>
  simp only [cY,og]
  have h':∀ p∈ps.toList,ρ p.2 = xd p.2:=fun p hp=>h p.2 (by simp;exact ⟨p.1,by simpa using hp⟩)
  simp only [Qv ps.toList _ h']
 case buildSlice t n ps =>
  simp only [cY]
  have h':∀ p∈ps.toList,ρ p.2 = xd p.2:=fun p hp=>h p.2 (by simp;exact ⟨p.1,by simpa using hp⟩)
  simp only [Rp ps.toList _ h']
 case makeFunc fn first captured =>
  cases fn<;>try rfl
  simp only [cY]
  have h1:first.toList.map ρ=first.toList.map xd:=mn fun x hx=>h x (by simp at hx;simp [hx])
  have h2:captured.toList.map ρ=captured.toList.map xd:=mn fun x hx=>h x (by simp at hx;simp [hx])
  rw [h1,h2]
 case call c =>
  obtain ⟨callee,args,ts⟩:=c
  cases callee<;>try rfl
  simp only [cY]
  have h1:args.toList.map ρ=args.toList.map xd:=mn fun x hx=>h x (by simp at hx;simp [Call.operands,hx])
  rw [h1]
 case makeMap t r=>cases r<;>rfl
 case slice t x lo hi mx=>cases lo<;>cases hi<;>cases mx<;>simp_all [cY]
 case next it b=>cases b<;>simp_all [cY]
end Go.cV
