/- Part 1 of my own framework and of the walks of functions: Gi. -/
import GoSem.Claim
set_option linter.unusedVariables false
set_option linter.unusedSectionVars false
set_option linter.unusedSimpArgs false
namespace Go.cV
open Go
def Aj:List (Nat×Nat×(Value→Prop)):=[]
end Go.cV
