/- Part 21 of my own framework and of the walks of functions: AbsV. -/
import Derived.Test.YtfjbdamcmiglgaaGreatOwn20
abbrev mq:=@List.map_congr_left
set_option linter.unusedVariables false
set_option linter.unusedSectionVars false
set_option linter.unusedSimpArgs false
namespace Go.c8
open Go
theorem QF {fl:List (Nat×Option eF)} {ρ w6:Operand→ae}:∀ (ps:List (Nat×Operand)) (cs:List ae),(∀ p∈ps,ρ p.2 = w6 p.2)→kh fl ρ cs ps=kh fl w6 cs ps
 | [],_,_=>rfl
 | (i,x) :: ps,cs,h=>by
  have h0:=h (i,x) (by simp)
  simp only at h0
  simp only [kh,h0]
  split
  ·split
   ·exact QF ps _ fun p hp=>h p (by simp [hp])
   ·rfl
  ·rfl
theorem QJ {e:eF} {ρ w6:Operand→ae}:∀ (ps:List (Nat×Operand)) (k:Nat),(∀ p∈ps,ρ p.2 = w6 p.2)→pK e ρ k ps=pK e w6 k ps
 | [],_,_=>rfl
 | (i,x) :: ps,k,h=>by
  have h0:=h (i,x) (by simp)
  simp only at h0
  simp only [pK,h0,QJ ps (k+1) fun p hp=>h p (by simp [hp])]
theorem X8 {P:Program} {σ:ai} {nm:Nat} {ρ w6:Operand→ae} (op:Op) (h:∀ x∈op.operands,ρ x = w6 x):cY P σ nm ρ op=cY P σ nm w6 op:=by
 cases op<;>simp only [Op.operands] at h<;>try (first | rfl | (simp only [cY];simp_all;done))
 case build t ps =>
  simp only [cY,n_]
  have h':∀ p∈ps.toList,ρ p.2 = w6 p.2:=fun p hp=>h p.2 (by simp;exact ⟨p.1,by simpa using hp⟩)
  simp only [QF ps.toList _ h']
 case buildSlice t n ps =>
  simp only [cY]
  have h':∀ p∈ps.toList,ρ p.2 = w6 p.2:=fun p hp=>h p.2 (by simp;exact ⟨p.1,by simpa using hp⟩)
  simp only [QJ ps.toList _ h']
 case makeFunc fn first captured =>
  cases fn<;>try rfl
  simp only [cY]
  have h1:first.toList.map ρ=first.toList.map w6:=mq fun x hx=>h x (by simp at hx;simp [hx])
  have h2:captured.toList.map ρ=captured.toList.map w6:=mq fun x hx=>h x (by simp at hx;simp [hx])
  rw [h1,h2]
 case call c =>
  obtain ⟨callee,args,ts⟩:=c
  cases callee<;>try rfl
  simp only [cY]
  have h1:args.toList.map ρ=args.toList.map w6:=mq fun x hx=>h x (by simp at hx;simp [Call.operands,hx])
  rw [h1]
 case makeMap t r=>cases r<;>rfl
 case slice t x lo hi mx=>cases lo<;>cases hi<;>cases mx<;>simp_all [cY]
 case next it b=>cases b<;>simp_all [cY]
end Go.c8
