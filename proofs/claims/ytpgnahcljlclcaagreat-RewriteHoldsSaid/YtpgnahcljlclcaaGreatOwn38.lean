/- Part 38 of my own framework and of the walks of functions: AcsM. -/
import Derived.Test.YtpgnahcljlclcaaGreatOwn37
set_option linter.unusedVariables false
set_option linter.unusedSectionVars false
set_option linter.unusedSimpArgs false
namespace Go.Abs
open Go
section
variable {P:Program} {lo:Ctx} {Q:AExit→St→Prop} {σ σ1:Store} {tm T:List AVal}
theorem CallEq.beginK {g:FuncId} {fn:Func} {c:Code} {args:List AVal} {r:AVal} {m:Nat} {rs:List ResultVar} (hf:P.funcs[g]? = some fn) (hb:fn.body=some c) (hr:fn.results.toList=rs) (hm:fn.ntmps - args.length=m)
  (hname : (fn.name == "runtime.NumGoroutine") = false) (hl : r.low 0)
  (h:EvK P ⟨0,none⟩ (retQ P rs (isT r)) [.code c] .normal ⟨args++List.replicate m .undef,[]⟩):CallEq P g args r:=by
 subst hr hm
 exact CallSh.pureT (CallSh.body hf hb hname h) hl
end
end Go.Abs
