/- Part 21 of my own framework and of the walks of functions: AbsV. -/
import Derived.Test.YtfjbdamcmiglgaaGreatOwn20
abbrev mY:=@List.map_congr_left
set_option linter.unusedVariables false
set_option linter.unusedSectionVars false
set_option linter.unusedSimpArgs false
namespace Go.dm
open Go
theorem Ty {fl:List (Nat×Option fj)} {ρ yi:Operand→ah}:∀ (ps:List (Nat×Operand)) (cs:List ah),(∀ p∈ps,ρ p.2 = yi p.2)→kN fl ρ cs ps=kN fl yi cs ps
 | [],_,_=>rfl
 | (i,x) :: ps,cs,h=>by
  have h0:=h (i,x) (by simp);simp only at h0;simp only [kN,h0];split
  ·split
   ·exact Ty ps _ fun p hp=>h p (by simp [hp])
   ·rfl
  ·rfl
theorem T_ {e:fj} {ρ yi:Operand→ah}:∀ (ps:List (Nat×Operand)) (k:Nat),(∀ p∈ps,ρ p.2 = yi p.2)→qu e ρ k ps=qu e yi k ps
 | [],_,_=>rfl
 | (i,x) :: ps,k,h=>by
  have h0:=h (i,x) (by simp);simp only at h0;simp only [qu,h0,T_ ps (k+1) fun p hp=>h p (by simp [hp])]
theorem Yf3 {P:Program} {σ:ai} {nm:Nat} {ρ yi:Operand→ah} (op:Op) (h:∀ x∈op.operands,ρ x = yi x):dt P σ nm ρ op=dt P σ nm yi op:=by
 cases op<;>simp only [Op.operands] at h<;>try (first | rfl | (simp only [dt];simp_all;done))
 case build t ps =>
  simp only [dt,o_];have h':∀ p∈ps.toList,ρ p.2 = yi p.2:=fun p hp=>h p.2 (by simp;exact ⟨p.1,by simpa using hp⟩);simp only [Ty ps.toList _ h']
 case buildSlice t n ps =>
  simp only [dt];have h':∀ p∈ps.toList,ρ p.2 = yi p.2:=fun p hp=>h p.2 (by simp;exact ⟨p.1,by simpa using hp⟩);simp only [T_ ps.toList _ h']
 case makeFunc fn first captured =>
  cases fn<;>try rfl
  simp only [dt];have h1:first.toList.map ρ=first.toList.map yi:=mY fun x hx=>h x (by simp at hx;simp [hx])
  have h2:captured.toList.map ρ=captured.toList.map yi:=mY fun x hx=>h x (by simp at hx;simp [hx]);rw [h1,h2]
 case call c =>
  obtain ⟨callee,args,ts⟩:=c;cases callee<;>try rfl
  simp only [dt];have h1:args.toList.map ρ=args.toList.map yi:=mY fun x hx=>h x (by simp at hx;simp [Call.operands,hx]);rw [h1]
 case makeMap t r=>cases r<;>rfl
 case slice t x lo hi mx=>cases lo<;>cases hi<;>cases mx<;>simp_all [dt]
 case next it b=>cases b<;>simp_all [dt]
end Go.dm
