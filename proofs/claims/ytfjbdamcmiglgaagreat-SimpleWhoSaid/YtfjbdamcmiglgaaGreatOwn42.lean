/- Part 42 of my own framework and of the walks of functions: AcsQ. -/
import Derived.Test.YtfjbdamcmiglgaaGreatOwn41
set_option linter.unusedVariables false
set_option linter.unusedSectionVars false
set_option linter.unusedSimpArgs false
namespace Go.c8
open Go
def Dp:ae→Option Value
 | .bool b=>some (.bool b)
 | .int k n=>some (.int k n)
 | .str s=>some (.string s)
 | _=>none
def r8:List ae→Option (List Value)
 | []=>some []
 | a :: l=>(Dp a).bind fun v=>(r8 l).map (v :: ·)
section
variable {P:Program} {w:World} {M:Nat→Nat→Prop} {β:Env}
theorem fP:∀ {l:List ae} {us:List Value},r8 l=some us→us.length=l.length
 | [],us,h=>by simp [r8] at h;subst h;rfl
 | a :: l,us,h=>by
  simp only [r8,au,aH] at h
  obtain ⟨v,_,EH,h2,rfl⟩:=h
  simp [fP h2]
theorem Ys3 {a:ae} {u:Value} (h:Dp a=some u) (n:Nat):a.low n:=by
 cases a<;>simp [Dp] at h<;>trivial
theorem cr:∀ {l:List ae} {us:List Value},r8 l=some us→∀ n,bx n l
 | [],_,_,_=>trivial
 | a :: l,us,h,n=>by
  simp only [r8,au,aH] at h
  obtain ⟨v,h1,EH,h2,rfl⟩:=h
  exact ⟨Ys3 h1 n,cr h2 n⟩
end
end Go.c8
