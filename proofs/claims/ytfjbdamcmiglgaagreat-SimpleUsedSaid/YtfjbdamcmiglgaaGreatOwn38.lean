/- Part 38 of my own framework and of the walks of functions: AcsM. -/
import Derived.Test.YtfjbdamcmiglgaaGreatOwn37
set_option linter.unusedVariables false
set_option linter.unusedSectionVars false
set_option linter.unusedSimpArgs false
namespace Go.cV
open Go
section
variable {P:Program} {lo:Ctx} {Q:cb→St→Prop} {σ dh:ai} {tm T:List ae}
theorem aJ.l6 {g:FuncId} {fn:Func} {c:Code} {args:List ae} {r:ae} {m:Nat} {rs:List ResultVar} (hf:P.funcs[g]? = some fn) (hb:fn.body=some c) (hr:fn.results.toList=rs) (hm:fn.ntmps - args.length=m)
  (eE : (fn.name == "runtime.NumGoroutine") = false) (hl : r.low 0)
  (h:aK P ⟨0,none⟩ (qm P rs (G0 r)) [.code c] .normal ⟨args++List.replicate m .undef,[]⟩):aJ P g args r:=by
 subst hr hm
 exact bS.BU (bS.body hf hb eE h) hl
end
end Go.cV
