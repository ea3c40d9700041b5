/- Part 42 of my own framework and of the walks of functions: AcsQ. -/
import Derived.Test.YtfjbdamcmiglgaaGreatOwn41
set_option linter.unusedVariables false
set_option linter.unusedSectionVars false
set_option linter.unusedSimpArgs false
namespace Go.c8
open Go
def DQ:ae→Option Value
 | .bool b=>some (.bool b)
 | .int k n=>some (.int k n)
 | .str s=>some (.string s)
 | _=>none
def sF:List ae→Option (List Value)
 | []=>some []
 | a :: l=>(DQ a).bind fun v=>(sF l).map (v :: ·)
section
variable {P:Program} {w:World} {M:Nat→Nat→Prop} {β:Env}
theorem gj:∀ {l:List ae} {us:List Value},sF l=some us→us.length=l.length
 | [],us,h=>by simp [sF] at h;subst h;rfl
 | a :: l,us,h=>by
  simp only [sF,au,aH] at h
  obtain ⟨v,_,E5,h2,rfl⟩:=h
  simp [gj h2]
theorem Ys5 {a:ae} {u:Value} (h:DQ a=some u) (n:Nat):a.low n:=by
 cases a<;>simp [DQ] at h<;>trivial
theorem cz:∀ {l:List ae} {us:List Value},sF l=some us→∀ n,bz n l
 | [],_,_,_=>trivial
 | a :: l,us,h,n=>by
  simp only [sF,au,aH] at h
  obtain ⟨v,h1,E5,h2,rfl⟩:=h
  exact ⟨Ys5 h1 n,cz h2 n⟩
end
end Go.c8
