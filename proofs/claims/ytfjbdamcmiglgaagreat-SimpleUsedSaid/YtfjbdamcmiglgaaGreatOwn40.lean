/- Part 40 of my own framework and of the walks of functions: AcsO. -/
import Derived.Test.YtfjbdamcmiglgaaGreatOwn39
set_option linter.unusedVariables false
set_option linter.unusedSectionVars false
set_option linter.unusedSimpArgs false
namespace Go.cV
open Go
section
variable {P:Program} {lo:Ctx} {Q:cb→St→Prop} {ops:Array Oper}
end
section
variable {P:Program}
end
end Go.cV
