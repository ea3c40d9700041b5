/- Part 42 of my own framework and of the walks of functions: AcsQ. -/
import Derived.Test.YtpgnahcljlclcaaGreatOwn41
set_option linter.unusedVariables false
set_option linter.unusedSectionVars false
set_option linter.unusedSimpArgs false
namespace Go.Abs
open Go
def litV:AVal→Option Value
 | .bool b=>some (.bool b)
 | .int k n=>some (.int k n)
 | .str s=>some (.string s)
 | _=>none
def litsV:List AVal→Option (List Value)
 | []=>some []
 | a :: l=>(litV a).bind fun v=>(litsV l).map (v :: ·)
section
variable {P:Program} {w:World} {M:Nat→Nat→Prop} {β:Env}
theorem Zaf:∀ {l:List AVal} {us:List Value},litsV l=some us→us.length=l.length
 | [],us,h=>by simp [litsV] at h;subst h;rfl
 | a :: l,us,h=>by
  simp only [litsV,Option.bind_eq_some_iff,Option.map_eq_some_iff] at h
  obtain ⟨v,_,us',h2,rfl⟩:=h
  simp [Zaf h2]
theorem Yiw {a:AVal} {u:Value} (h:litV a=some u) (n:Nat):a.low n:=by
 cases a<;>simp [litV] at h<;>trivial
theorem Za3:∀ {l:List AVal} {us:List Value},litsV l=some us→∀ n,lowL n l
 | [],_,_,_=>trivial
 | a :: l,us,h,n=>by
  simp only [litsV,Option.bind_eq_some_iff,Option.map_eq_some_iff] at h
  obtain ⟨v,h1,us',h2,rfl⟩:=h
  exact ⟨Yiw h1 n,Za3 h2 n⟩
end
end Go.Abs
