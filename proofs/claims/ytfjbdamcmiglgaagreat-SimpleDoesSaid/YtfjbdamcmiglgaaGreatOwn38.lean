/- Part 38 of what the claim rests on. -/
import Derived.Test.YtfjbdamcmiglgaaGreatOwn37
set_option linter.all false
namespace Go.dq
open Go
section
variable {P:Program}{lo:Ctx}{Q:cB->St->Prop}{σ σ1:av}{tm T:List ah}
theorem E4 {s:St}{n:Nat}(h:zp T σ1 s):Wr n (λb=>b) ⟨T,σ1⟩ s:=by
 obtain⟨h1,h2,h3,h4⟩:=h;refine⟨λb _=>rfl,λb b' _ _ e=>e,?_,λb x hb=>?_,h3,sq h4⟩
 ·simp only[Yg (π:=λb=>b) (λ_=>rfl) h3];exact h1
 ·rw[CL (λb=>b) σ1.length (λb _=>rfl) x (sq h4 b x hb)];exact xe h2 b x hb
theorem az.iq {g:FuncId} {fn:Func} {c:Code} {args:List ah} {r:ah} {m:Nat} {rs:List ResultVar} (hf:P.funcs[g]? = some fn) (hb:fn.body=some c) (hr:fn.results.toList=rs) (hm:fn.ntmps-args.length=m)
  (fe : (fn.name == "runtime.NumGoroutine") = false) (hl : r.low 0)
  (h:aC P ⟨0,none⟩ (rL P rs (J4 r)) [.code c] .normal ⟨args++List.replicate m .undef,[]⟩):az P g args r:=by
 subst hr hm;exact cj.Ew (cj.body hf hb fe h) hl
end
end Go.dq
