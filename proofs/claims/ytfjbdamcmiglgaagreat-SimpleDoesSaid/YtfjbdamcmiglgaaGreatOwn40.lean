/- Part 40 of what the claim rests on. -/
import Derived.Test.YtfjbdamcmiglgaaGreatOwn39
set_option linter.all false
namespace Go.dq
open Go
section
variable {P:Program}{lo:Ctx}{Q:cB->St->Prop}{ops:Array Oper}
end
section
variable {P:Program}
end
end Go.dq
