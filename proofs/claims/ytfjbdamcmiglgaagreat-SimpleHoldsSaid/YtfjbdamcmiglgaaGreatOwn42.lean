/- Part 42 of my own framework and of the walks of functions: AcsQ. -/
import Derived.Test.YtfjbdamcmiglgaaGreatOwn41
set_option linter.unusedVariables false
set_option linter.unusedSectionVars false
set_option linter.unusedSimpArgs false
namespace Go.dm
open Go
def EG:ah→Option Value
 | .bool b=>some (.bool b)
 | .int k n=>some (.int k n)
 | .str s=>some (.string s)
 | _=>none
def tM:List ah→Option (List Value)
 | []=>some []
 | a :: l=>(EG a).bind fun v=>(tM l).map (v :: ·)
section
variable {P:Program} {w:World} {M:Nat→Nat→Prop} {β:Env}
theorem fR:∀ {l:List ah} {us:List Value},tM l=some us→us.length=l.length
 | [],us,h=>by simp [tM] at h;subst h;rfl
 | a :: l,us,h=>by
  simp only [tM,ay,aI] at h;obtain ⟨v,_,F7,h2,rfl⟩:=h;simp [fR h2]
theorem Yqv {a:ah} {u:Value} (h:EG a=some u) (n:Nat):a.low n:=by
 cases a<;>simp [EG] at h<;>trivial
theorem cy:∀ {l:List ah} {us:List Value},tM l=some us→∀ n,bF n l
 | [],_,_,_=>trivial
 | a :: l,us,h,n=>by
  simp only [tM,ay,aI] at h;obtain ⟨v,h1,F7,h2,rfl⟩:=h;exact ⟨Yqv h1 n,cy h2 n⟩
end
end Go.dm
