/- Part 38 of my own framework and of the walks of functions: AcsM. -/
import Derived.Test.YtfjbdamcmiglgaaGreatOwn37
set_option linter.unusedVariables false
set_option linter.unusedSectionVars false
set_option linter.unusedSimpArgs false
namespace Go.c8
open Go
section
variable {P:Program} {lo:Ctx} {Q:b9→St→Prop} {σ dg:ai} {tm T:List ae}
theorem aJ.l8 {g:FuncId} {fn:Func} {c:Code} {args:List ae} {r:ae} {m:Nat} {rs:List ResultVar} (hf:P.funcs[g]? = some fn) (hb:fn.body=some c) (hr:fn.results.toList=rs) (hm:fn.ntmps - args.length=m)
  (eA : (fn.name == "runtime.NumGoroutine") = false) (hl : r.low 0)
  (h:aK P ⟨0,none⟩ (qf P rs (GQ r)) [.code c] .normal ⟨args++List.replicate m .undef,[]⟩):aJ P g args r:=by
 subst hr hm
 exact bS.BN (bS.body hf hb eA h) hl
end
end Go.c8
