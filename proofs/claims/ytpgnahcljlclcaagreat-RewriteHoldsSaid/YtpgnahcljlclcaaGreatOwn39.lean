/- Part 39 of my own framework and of the walks of functions: AcsN. -/
import Derived.Test.YtpgnahcljlclcaaGreatOwn38
import Derived.Laws.Externs
import Derived.MapKept
set_option linter.unusedVariables false
set_option linter.unusedSectionVars false
set_option linter.unusedSimpArgs false
namespace Go.Abs
open Go
def frM (q:Nat) (ks vs:List AVal):AVal→AVal
 | .map b=>if b=q then .pm ks vs else .map b
 | a=>a
section
variable {P:Program} {X:Nat→Nat→Prop} {base:Nat} {σ:Store} {β β':Env} {w w':World}
theorem Ycl {q:Nat} {ks vs:List AVal} {fz:Bool} (hr:RelS X base σ β w) (hb : σ[q]? = some (some (.map ks vs fz))) {v:Value} {a:AVal} (h:Rep w (MT X σ β) β v a):Rep w (MT X (σ.set q none) β) β v (frM q ks vs a):=by
 have hk:Keeps w (MT X σ β) w (MT X (σ.set q none) β):=Keeps.anti fun g o h=>h.imp id Zjq
 cases a with
 | map b =>
  simp only [frM]
  split
  ·rename_i e
   subst e
   cases h with
   | @map _ L hh =>
    obtain ⟨L',q1,q2,q3,es,clk,q4,q5,q6,q7,q8,q9⟩:=hr.blk b _ hb
    obtain rfl:=Option.some.inj (q1.symm.trans hh)
    have hM:∀ o, ¬ MT X (σ.set b none) β L'.g o:=by
     rintro o (hx | ⟨c2,y,L2,m1,m2,m3,m4⟩)
     ·exact q3 _ hx
     ·obtain ⟨n1,n2⟩:=Zkv m1
      exact n1 (hr.inj c2 b y _ L2 L' n2 hb m2 q1 m3)
    exact .pm q4 (hM _) q5 q6 (fun k hk'=>(q7 k hk').mono hk (fun _ _ h=>h)) (fun k hk'=>(q8 k hk').mono hk (fun _ _ h=>h)) q9
  ·exact h.mono hk (fun _ _ h=>h)
 | _=>exact h.mono hk (fun _ _ h=>h)
end
end Go.Abs
