/- Part 31 of my own framework and of the walks of functions: AcsF. -/
import Derived.Test.YtfjbdamcmiglgaaGreatOwn30
import Derived.Below
import Derived.Carry
set_option linter.unusedVariables false
set_option linter.unusedSectionVars false
set_option linter.unusedSimpArgs false
namespace Go.c8
open Go
section
variable {P:Program}
theorem Zvi {g : FuncId} {fn : Func} {c : Code} {args : List ae} {σ : ai} {K : ae → ai → Prop} (hf : P.funcs[g]? = some fn) (hb : fn.body = some c) (eI : (fn.name == "runtime.NumGoroutine") = false)
  (h:iw P ⟨σ.length,none⟩ c (St.enter fn args σ) (BB P fn K)) {X:Nat→Nat→Prop} {base:Nat} {β:Env} {w:World} {vs:Array Value} (h1:cH X base σ β w) (h2:vs.size=args.length)
  (h3:∀ k,k<args.length→bS w (MT X σ β) β (vs.getD k undef) (args.getD k .undef)) (cs:List Frame) :
  ∃ r σ' β' v w' BD,K r σ'∧bS w' (MT X σ' β') β' v r∧Ext σ.length σ β w σ' β' w'∧Steps P (lone (Frame.enter P g vs .normal) cs w) (lone BD cs w')∧BD.fn=g∧BD.leaving P w' (.returned v):=by
 obtain ⟨e,ef,β',a',w',q,r1,r2,r3,r4⟩:=h X base w.heap.size [] β _ w (kE g .normal) [] cs (ah _) (ah _) (T3 h1 h2 h3) rfl
 rw [← Rk hf hb] at r4
 have hq:∃ r,fS P ef fn.results.toList=some r∧K r ef.σ:=by cases e<;>first | exact q | exact q.elim
 obtain ⟨r,oJ,nS⟩:=hq
 obtain ⟨todo,fT⟩:∃ todo,Steps P (lone (Frame.enter P g vs .normal) cs w) (lone { (kE g .normal).atR a' todo with mode:=.returning } cs w'):=by
  cases e with
  | normal=>exact ⟨[],Steps.trans r4 (.one (stepR_end rfl))⟩
  | ret=>obtain ⟨k',eE⟩:=r4;exact ⟨_,Steps.trans eE (.one (stepR_ret rfl))⟩
  | exit id=>exact q.elim
  | goto l=>exact q.elim
  | panic u=>exact q.elim
 obtain ⟨w2,t1,sx,pQ⟩:=r2.zb (P:=P) { (kE g .normal).atR a' todo with mode:=.returning } cs (by simp) rfl
 obtain ⟨x,yK,EY⟩:=Q0 sx oJ
 exact ⟨r,ef.σ,β',x,w2,_,nS,EY,pQ _ _ _ _ (ah _) r3,fT.trans t1,rfl,rfl,rfl,rfl,fn,hf,yK⟩
theorem YP {w:World} (hg:vg w.heap.size w):cH rU w.heap.size [] sH w:=⟨fun _ _=>rfl,fun b x h=>by simp at h,fun b b' x y L L' h=>by simp at h,Nat.le_refl _,fun _ _ h=>h.elim,hg⟩
theorem Zzu {g : FuncId} {fn : Func} {c : Code} {args : List ae} {m : Nat} {rs : List ResultVar} (n : Nat) (hf : P.funcs[g]? = some fn) (hb : fn.body = some c) (hr : fn.results.toList = rs) (hm : fn.ntmps - args.length = m) (eI : (fn.name == "runtime.NumGoroutine") = false)
  (h:dZ P ⟨0,none⟩ (qv P rs (Hl (.bool true))) n [.code c] .normal (args++List.replicate m .undef) []) {w:World} {vs:Array Value} (hg:vg w.heap.size w) (h2:vs.size=args.length)
  (h3:∀ k,k<args.length→bS w rU sH (vs.getD k undef) (args.getD k .undef)):Calls P g vs w fun e w'=>e = .returned (.bool true)∧RowKit.Below w.heap.size w w':=by
 intro cs
 subst hr hm
 have hM:MT rU [] sH=rU:=by funext g o;simp [MT,rU,Ew]
 obtain ⟨r,σ',β',v,w',BD,k1,k2,k3,k4,k5,k6⟩:=Zvi (args:=args) (σ:=[]) (K:=Hl (.bool true)) hf hb eI (Cp n _ _ _ _ h) (X:=rU) (base:=w.heap.size) (β:=sH) (w:=w) (YP hg) h2 (by rw [hM];exact h3) cs
 have hr:r = .bool true:=by
  have:pT (fun _=>true) σ' (.bool true) r:=k1
  simpa [pT] using this
 subst hr
 have hv:=k2.ij
 subst hv
 exact ⟨.returned (.bool true),w',BD,⟨rfl,k3.os,k3.tape,k3.output,k3.size,fun g hg=>k3.block g hg fun o=>Ew⟩,k4,k5,k6⟩
end
end Go.c8
