/- Part 42 of what the claim rests on. -/
import Derived.Test.YtfjbdamcmiglgaaGreatOwn41
set_option linter.all false
namespace Go.dq
open Go
def Gb:ah->Option Value
 |.bool b=>some (.bool b)
 |.int k n=>some (.int k n)
 |.str s=>some (.string s)
 |_=>none
def vb:List ah->Option (List Value)
 |[]=>some []
 |a :: l=>(Gb a).bind λv=>(vb l).map (v :: ·)
section
variable {P:Program}{w:World}{M:Nat->Nat->Prop}{β:Env}
theorem dA:∀ {l:List ah} {us:List Value},vb l=some us->us.length=l.length
 |[],us,h=>by simp[vb]at h;subst h;rfl
 |a :: l,us,h=>by
  simp only[vb,aB,aP]at h;obtain⟨v,_,HE,h2,rfl⟩:=h;simp[dA h2]
theorem Ys3 {a:ah}{u:Value}(h:Gb a=some u)(n:Nat):a.low n:=by
 cases a<;>simp[Gb]at h<;>trivial
theorem bI:∀ {l:List ah} {us:List Value},vb l=some us->∀n,bG n l
 |[],_,_,_=>trivial
 |a :: l,us,h,n=>by
  simp only[vb,aB,aP]at h;obtain⟨v,h1,HE,h2,rfl⟩:=h;exact⟨Ys3 h1 n,bI h2 n⟩
end
end Go.dq
