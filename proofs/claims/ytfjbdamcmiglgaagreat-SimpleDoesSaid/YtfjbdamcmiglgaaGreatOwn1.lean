/- Part 1 of what the claim rests on. -/
import GoSem.Claim
set_option linter.all false
namespace Go.dq
open Go
def CZ:List (Nat×Nat×(Value->Prop)):=[]
end Go.dq
