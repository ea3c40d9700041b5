/- Part 38 of my own framework and of the walks of functions: AcsM. -/
import Derived.Test.YtfjbdamcmiglgaaGreatOwn37
set_option linter.unusedVariables false
set_option linter.unusedSectionVars false
set_option linter.unusedSimpArgs false
namespace Go.dm
open Go
section
variable {P:Program} {lo:Ctx} {Q:ct→St→Prop} {σ dA:ai} {tm T:List ah}
theorem Z0 {s:St} {n:Nat} (h:vG T dA s):Wr n (fun b=>b) ⟨T,dA⟩ s:=by
 obtain ⟨h1,h2,h3,h4⟩:=h;refine ⟨fun b _=>rfl,fun b b' _ _ e=>e,?_,fun b x hb=>?_,h3,qR h4⟩
 ·simp only [Vs (π:=fun b=>b) (fun _=>rfl) h3];exact h1
 ·rw [Bf (fun b=>b) dA.length (fun b _=>rfl) x (qR h4 b x hb)];exact vV h2 b x hb
theorem aG.mid {c1 c2:Code} {k:List KI} (n:Nat) (T:List ah) (dA:ai) (jg:lo.n≤dA.length) (h1:eF P lo (fun e s=>e = .normal∧vG T dA s) n [.code c1] .normal tm σ)
  (h2:aG P lo Q (.code c2 :: k) .normal ⟨T,dA⟩):aG P lo Q (.code c1 :: .code c2 :: k) .normal ⟨tm,σ⟩:=by
 have h:=A6 n _ _ _ _ h1;refine iy.mono (Q:=fun e s=>e = .normal∧vG T dA s) h ?_;rintro e s ⟨rfl,hs⟩;exact aG.Yr (Z0 hs) jg h2
theorem aG.split {c1 c2:Code} {k:List KI} {st:St} (h:aG P lo Q (.code c1 :: .code c2 :: k) .normal st):aG P lo Q (.code (.seq c1 c2) :: k) .normal st:=by
 refine iy.seq (iy.mono (Q:=fun e s=>aG P lo Q (.code c2 :: k) e s) h ?_);intro e s q;cases e<;>exact q
theorem aG.upto {c1 c2:Code} {k:List KI} (n:Nat) (h1:eF P lo (fun e s=>e = .normal∧aG P lo Q (.code c2 :: k) .normal s) n [.code c1] .normal tm σ):aG P lo Q (.code c1 :: .code c2 :: k) .normal ⟨tm,σ⟩:=by
 have h:=A6 n _ _ _ _ h1;refine iy.mono (Q:=fun e s=>e = .normal∧aG P lo Q (.code c2 :: k) .normal s) h ?_;rintro e s ⟨rfl,hs⟩;exact hs
theorem aD.mI {g:FuncId} {fn:Func} {c:Code} {args:List ah} {r:ah} {m:Nat} {rs:List ResultVar} (hf:P.funcs[g]? = some fn) (hb:fn.body=some c) (hr:fn.results.toList=rs) (hm:fn.ntmps - args.length=m)
  (ff : (fn.name == "runtime.NumGoroutine") = false) (hl : r.low 0)
  (h:aG P ⟨0,none⟩ (rq P rs (F3 r)) [.code c] .normal ⟨args++List.replicate m .undef,[]⟩):aD P g args r:=by
 subst hr hm;exact cg.CX (cg.body hf hb ff h) hl
end
end Go.dm
