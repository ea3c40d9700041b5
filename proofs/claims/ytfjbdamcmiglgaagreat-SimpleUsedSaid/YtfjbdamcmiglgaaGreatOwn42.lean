/- Part 42 of my own framework and of the walks of functions: AcsQ. -/
import Derived.Test.YtfjbdamcmiglgaaGreatOwn41
set_option linter.unusedVariables false
set_option linter.unusedSectionVars false
set_option linter.unusedSimpArgs false
namespace Go.cV
open Go
def DC:ae→Option Value
 | .bool b=>some (.bool b)
 | .int k n=>some (.int k n)
 | .str s=>some (.string s)
 | _=>none
def sn:List ae→Option (List Value)
 | []=>some []
 | a :: l=>(DC a).bind fun v=>(sn l).map (v :: ·)
section
variable {P:Program} {w:World} {M:Nat→Nat→Prop} {β:Env}
theorem fO:∀ {l:List ae} {us:List Value},sn l=some us→us.length=l.length
 | [],us,h=>by simp [sn] at h;subst h;rfl
 | a :: l,us,h=>by
  simp only [sn,ax,aG] at h
  obtain ⟨v,_,EP,h2,rfl⟩:=h
  simp [fO h2]
theorem Yrn {a:ae} {u:Value} (h:DC a=some u) (n:Nat):a.low n:=by
 cases a<;>simp [DC] at h<;>trivial
theorem ct:∀ {l:List ae} {us:List Value},sn l=some us→∀ n,bx n l
 | [],_,_,_=>trivial
 | a :: l,us,h,n=>by
  simp only [sn,ax,aG] at h
  obtain ⟨v,h1,EP,h2,rfl⟩:=h
  exact ⟨Yrn h1 n,ct h2 n⟩
end
end Go.cV
